/-
  coldstorelaw19.RetainDays: true.
-/
import Derived.Test.YtgnigkghkldcfaaRetLaw
namespace Go.Proofs.Ytgnigkghkldcfaa
open Go.RowKit Go.Proofs Go.Lib Go.Maps Go.Sort Go.Shelf

set_option maxRecDepth 100000 in
set_option maxHeartbeats 4000000 in
theorem rdays_short {w : World} {v : Value} {L : List SnapR} (hL : SnapsAt w v L) (hOK : ∀ s ∈ L, SnapOK s) (h30 : L.length ≤ 30) (day : Int) (n0 : Int) :
    Calls Try.prog 13 #[v, .int .i64 day, .int .i64 n0] w fun e w' => e = .returned (.bool true) ∧ Keep (fun _ => False) w w' := by
  obtain ⟨va, vc, rfl⟩ : ∃ a c, v = .slice a L.length c := let ⟨_, a, c, e, _⟩ := hL; ⟨a, c, e⟩
  obtain ⟨n, en, -, hn1', hn2'⟩ := mask_in 5 (by decide) 31 (by decide) n0
  obtain ⟨d0, ed, -, hd1', hd2'⟩ := mask_in 10 (by decide) 1023 (by decide) day
  simp only [Nat.reducePow] at hn2' hd2'
  have hn : 0 ≤ n ∧ n ≤ 31 := by omega
  have hdd : 0 ≤ d0 ∧ d0 ≤ 1023 := by omega
  clear hn1' hn2' hd1' hd2'
  obtain ⟨hn1, hn2⟩ := hn
  obtain ⟨hd1, hd2⟩ := hdd
  obtain ⟨dy, hdy⟩ : ∃ dy, dy = 1 + d0 := ⟨_, rfl⟩
  have hwd : IntKind.i64.wrap (1 + d0) = dy := by rw [IntKind.wrap_i64]; omega
  have hdy1 : 1 ≤ dy := by omega
  have hdy2 : dy ≤ 1024 := by omega
  obtain ⟨m, hm⟩ : ∃ m : Nat, (m : Int) = n := ⟨n.toNat, by omega⟩
  subst hm
  obtain ⟨P, hP⟩ := places_ex L
  obtain ⟨D, hD⟩ := days_ex L dy
  obtain ⟨N, hN⟩ : ∃ N, N = L.length := ⟨_, rfl⟩
  have hD31 : D.length ≤ 30 := by
    have h1 := days_count (n := D.length) hP hD
    have h2 := List.countP_le_length (p := id) (l := keepB L P ⟨0, (D.length : Nat), dy, 0, []⟩ D)
    rw [keepB_len] at h2
    omega
  have hA := days_count (n := m) hP hD
  have hB := last_count (D := []) (n := m) hP
  have hZ := Lib.hid (fun (P' : List Nat) => kept_count (p := ⟨0, 5, 0, 0, []⟩) (D := []) hP)
  obtain ⟨A, hAe⟩ : ∃ A, A = keepB L P ⟨0, m, dy, 0, []⟩ D := ⟨_, rfl⟩
  obtain ⟨B, hBe⟩ : ∃ B, B = keepB L P ⟨m, 0, 0, 0, []⟩ [] := ⟨_, rfl⟩
  obtain ⟨Z, hZe⟩ : ∃ Z, Z = keepB L P ⟨0, 5, 0, 0, []⟩ [] := ⟨_, rfl⟩
  have hAl : A.length = N := by rw [hAe, keepB_len, hN]
  have hBl : B.length = N := by rw [hBe, keepB_len, hN]
  have hZl : Z.length = N := by rw [hZe, keepB_len, hN]
  have hZf : ∀ k, k < N → Z[k]? = some false := by
    intro k hk
    obtain ⟨j, hj, _, _, e⟩ := kept_of (p := ⟨0, 5, 0, 0, []⟩) (D := []) hP (i := k) (by omega)
    rw [hZe, e, kp_days (by rw [rowOf_len hP]; exact hj)]
    simp
  have HKA := Lib.hid (fun (W : World) (h : SnapsAt W (.slice va L.length vc) L) => keep_at (p := ⟨0, m, dy, 0, []⟩) h hOK h30 (by unfold In64; dsimp only; omega) (by unfold In64; dsimp only; omega) (by unfold In64; dsimp only; omega) hP hD)
  have HKB := Lib.hid (fun (W : World) (h : SnapsAt W (.slice va L.length vc) L) => keep_at (p := ⟨m, 0, 0, 0, []⟩) h hOK h30 (by unfold In64; dsimp only; omega) (by unfold In64; dsimp only; omega) (by unfold In64; dsimp only; omega) hP (days_none L (by dsimp only; omega)))
  have HKZ := Lib.hid (fun (W : World) (h : SnapsAt W (.slice va L.length vc) L) => keep_at (p := ⟨0, 5, 0, 0, []⟩) h hOK h30 (by unfold In64; dsimp only; omega) (by unfold In64; dsimp only; omega) (by unfold In64; dsimp only; omega) hP (days_none L (by dsimp only; omega)))
  have HDY := Lib.hid (fun (W : World) (h : SnapsAt W (.slice va L.length vc) L) => days_at (day := dy) h hOK h30 hD)
  have HDZ := Lib.hid (fun (W : World) (h : SnapsAt W (.slice va L.length vc) L) => days_at (day := 0) h hOK h30 (days_none L (by decide)))
  rw [← hAe] at hA HKA
  rw [← hBe] at hB HKB
  rw [← hZe] at HKZ
  rw [← hN] at hB HKA HKB HKZ HDY HDZ ⊢
  have HL := Lib.hid (show SnapsAt w (.slice va N vc) L by rw [hN]; exact hL)
  have HFD := Lib.hid hD.falls
  have HA := Lib.hid hA; have HB := Lib.hid hB; have HAL := Lib.hid hAl; have HBL := Lib.hid hBl; have HZF := Lib.hid hZf; have HZL := Lib.hid hZl
  have h30' : (N : Int) ≤ 30 := by omega
  have hm31 : m ≤ 31 := by omega
  unfold polCells strV at HKA HKB HKZ
  dsimp only [List.toArray] at HKA HKB HKZ
  clear hL hOK h30 hP hD hN hA hB hZ hAe hBe hZe hAl hBl hZl hZf hd1 hd2
  have HW := Lib.hid hdy
  clear hdy
  go_enter Try.func13, Try.ntmps13
  go_wp2_with fail
  refine (alive19_any w).mono ?_
  rintro e w1 ⟨rfl, k1⟩
  have HL1 := Lib.hid (HL.out.keep k1 (fun _ _ e => e)); have K1 := Lib.hid k1
  clear k1 HL
  go_wp2_with fail
  refine (HDY.out _ HL1.out).mono ?_
  rintro e w2 ⟨dv, rfl, k2, hd2⟩
  obtain ⟨da, dc, rfl⟩ : ∃ a c, dv = .slice a D.length c := let ⟨_, a, c, e, _⟩ := hd2; ⟨a, c, e⟩
  obtain ⟨M, hM⟩ : ∃ M, M = D.length := ⟨_, rfl⟩
  rw [← hM]
  have HM := Lib.hid hM
  have HD2 := Lib.hid hd2; have HL2 := Lib.hid (HL1.out.keep k2 (fun _ _ e => e)); have K2 := Lib.hid (K1.out.trans k2)
  clear k2 hd2 HL1 K1 hM
  go_wp2_with fail
  refine (HKA.out _ HL2.out).mono ?_
  rintro e w3 ⟨ga, ca, rfl, k3, ba⟩
  have HBA := Lib.hid ba; have HD3 := Lib.hid (Sl.keep HD2.out k3 (fun _ _ _ e => e)); have HL3 := Lib.hid (HL2.out.keep k3 (fun _ _ e => e)); have K3 := Lib.hid (K2.out.trans k3)
  clear k3 ba HD2 HL2 K2
  go_wp2_with fail
  refine (HKB.out _ HL3.out).mono ?_
  rintro e w4 ⟨gb, cb, rfl, k4, bb⟩
  have HBA4 := Lib.hid (HBA.out.keep k4 id); have HBB4 := Lib.hid bb; have HD4 := Lib.hid (Sl.keep HD3.out k4 (fun _ _ _ e => e)); have HL4 := Lib.hid (HL3.out.keep k4 (fun _ _ e => e)); have K4 := Lib.hid (K3.out.trans k4)
  clear k4 bb HBA HD3 HL3 K3
  go_wp2
  go_loopg [10, 11, 42] N (fun g v10 v11 v42 wr => ∃ k : Nat, k ≤ N ∧ g = N - k ∧ v42 = .int .i64 k ∧ v10 = .int .i64 (cntB A k) ∧ v11 = .int .i64 (cntB B k) ∧ w4 = wr)
  case atStart => exact ⟨0, Nat.zero_le _, rfl, rfl, by simp [cntB_zero], by simp [cntB_zero], rfl⟩
  case round =>
    obtain ⟨k, hk, hg, rfl, rfl, rfl, rfl⟩ := hrel
    by_cases hlt : k < N
    · obtain ⟨a, ha⟩ : ∃ a, A[k]? = some a := ⟨_, List.getElem?_eq_getElem (by rw [HAL.out]; exact hlt)⟩
      obtain ⟨b, hb⟩ : ∃ b, B[k]? = some b := ⟨_, List.getElem?_eq_getElem (by rw [HBL.out]; exact hlt)⟩
      have cA := HBA4.out.at ha
      have cB := HBB4.out.at hb
      have sA := cntB_step ha
      have sB := cntB_step hb
      have lA := cntB_le A k
      have lB := cntB_le B k
      have k1 : (0 : Int) ≤ k := by omega
      have k2 : (k : Int) < N := by omega
      obtain ⟨x, hx⟩ : ∃ x, x = cntB A k := ⟨_, rfl⟩
      obtain ⟨y, hy⟩ : ∃ y, y = cntB B k := ⟨_, rfl⟩
      rw [← hx] at sA lA ⊢
      rw [← hy] at sB lB ⊢
      have SA := Lib.hid sA; have SB := Lib.hid sB; have HG := Lib.hid hg
      clear sA sB ha hb hx hy hg
      cases a <;> cases b
      all_goals
        go_wp2
        go_roundg (N - (k + 1))
        case measure => have := HG.out; omega
        case rel => exact ⟨k + 1, by omega, rfl, by go_num, by rw [SA.out]; go_num, by rw [SB.out]; go_num, rfl⟩
    · have hkN : k = N := by omega
      subst hkN
      have eA : cntB A k = min m M := by rw [cntB_all (by rw [HAL.out]; exact Nat.le_refl _), HA.out, HM.out]
      have eB : cntB B k = min m k := by rw [cntB_all (by rw [HBL.out]; exact Nat.le_refl _), HB.out]
      rw [eA, eB]
      obtain ⟨x, hx⟩ : ∃ x, x = min m M := ⟨_, rfl⟩
      obtain ⟨y, hy⟩ : ∃ y, y = min m k := ⟨_, rfl⟩
      rw [← hx, ← hy]
      have qx : ((x : Int) == min (m : Int) (M : Int)) = true := by simp; omega
      have qy : ((y : Int) == min (m : Int) (k : Int)) = true := by simp; omega
      have QX := Lib.hid qx; have QY := Lib.hid qy
      have hM30 : M ≤ 30 := by rw [HM.out]; exact hD31
      have hx31 : x ≤ 31 := by omega
      have hy31 : y ≤ 31 := by omega
      clear eA eB hx hy qx qy hg hk hD31
      go_wp2
      go_loopg [60] M (fun g v60 wr => ∃ j : Nat, j ≤ M ∧ g = M - j ∧ v60 = .int .i64 j ∧ w4 = wr)
      case atStart => exact ⟨0, Nat.zero_le _, rfl, rfl, rfl⟩
      case round =>
        obtain ⟨j, hj, hg, rfl, rfl⟩ := hrel
        by_cases hlt2 : j < M
        · have hjD : j < D.length := by rw [← HM.out]; exact hlt2
          obtain ⟨db, dd, dc', ev, _, _⟩ := Sl.base HD4.out (by omega)
          cases ev
          obtain ⟨d, hd⟩ : ∃ d, D[j]? = some d := ⟨_, List.getElem?_eq_getElem hjD⟩
          have cd : w4.cell? ⟨db, dd + j, none⟩ = some (.int .i64 d) := Sl.at1 HD4.out (by rw [List.getElem?_map, hd]; rfl)
          have j1 : (0 : Int) ≤ j := by omega
          have j2 : (j : Int) < M := by omega
          have HG := Lib.hid hg
          cases j with
          | zero =>
            rw [Nat.add_zero] at cd
            clear hd hg
            go_wp2
            go_roundg (M - 1)
            case measure => have := HG.out; omega
            case rel => exact ⟨1, by omega, rfl, by go_num, rfl⟩
          | succ i =>
            obtain ⟨d', hd'⟩ : ∃ d', D[i]? = some d' := ⟨_, List.getElem?_eq_getElem (by omega)⟩
            have cd' : w4.cell? ⟨db, dd + i, none⟩ = some (.int .i64 d') := Sl.at1 HD4.out (by rw [List.getElem?_map, hd']; rfl)
            have hfall : ¬ d' ≤ d := by
              have h1 := List.pairwise_iff_getElem.1 HFD.out i (i + 1) (by omega) hjD (by omega)
              rw [List.getElem?_eq_some_iff] at hd hd'
              obtain ⟨_, e1⟩ := hd
              obtain ⟨_, e2⟩ := hd'
              rw [e1, e2] at h1
              omega
            have i1 : (0 : Int) ≤ i := by omega
            have i2 : (i : Int) < M := by omega
            have hwi : IntKind.i64.wrap (((i + 1 : Nat) : Int) - 1) = (i : Int) := by rw [IntKind.wrap_i64]; omega
            have hpos : (0 : Int) < ((i + 1 : Nat) : Int) := by omega
            clear hd hd' hg
            go_wp2
            go_roundg (M - (i + 1 + 1))
            case measure => have := HG.out; omega
            case rel => exact ⟨i + 1 + 1, by omega, rfl, by go_num, rfl⟩
        · have hjM : j = M := by omega
          subst hjM
          clear hg hj
          go_wp2_with fail
          refine (HKZ.out _ HL4.out).mono ?_
          rintro e w5 ⟨gz, cz, rfl, k5, bz⟩
          have HBZ := Lib.hid bz; have HL5 := Lib.hid (HL4.out.keep k5 (fun _ _ e => e)); have K5 := Lib.hid (K4.out.trans k5)
          clear k5 bz HL4 K4 HD4 HBA4 HBB4
          go_wp2
          go_loopg [82] k (fun g v82 wr => ∃ i : Nat, i ≤ k ∧ g = k - i ∧ v82 = .int .i64 i ∧ w5 = wr)
          case atStart => exact ⟨0, Nat.zero_le _, rfl, rfl, rfl⟩
          case round =>
            obtain ⟨i, hi, hg, rfl, rfl⟩ := hrel
            by_cases hlt3 : i < k
            · have cz := HBZ.out.at (HZF.out i hlt3)
              have i1 : (0 : Int) ≤ i := by omega
              have i2 : (i : Int) < k := by omega
              have HG := Lib.hid hg
              clear hg
              go_wp2
              go_roundg (k - (i + 1))
              case measure => have := HG.out; omega
              case rel => exact ⟨i + 1, by omega, rfl, by go_num, rfl⟩
            · have hik : i = k := by omega
              subst hik
              have qx := QX.out
              have qy := QY.out
              clear hg hi
              go_wp2_with fail
              refine (HDZ.out _ HL5.out).mono ?_
              rintro e w6 ⟨dz, rfl, k6, hdz⟩
              obtain ⟨dza, dzc, rfl⟩ : ∃ a c, dz = .slice a 0 c := let ⟨_, a, c, e, _⟩ := hdz; ⟨a, c, e⟩
              have K6 := Lib.hid (K5.out.trans k6)
              clear k6 hdz
              go_wp2
              go_ret
              exact ⟨rfl, K6.out⟩

set_option maxRecDepth 100000 in
theorem rdays_any {w : World} {v : Value} {L : List SnapR} (hL : SnapsAt w v L) (hOK : ∀ s ∈ L, SnapOK s) (day : Int) (_hd : -9223372036854775808 ≤ day ∧ day ≤ 9223372036854775807) (n0 : Int) (_hn : -9223372036854775808 ≤ n0 ∧ n0 ≤ 9223372036854775807) :
    Calls Try.prog 13 #[v, .int .i64 day, .int .i64 n0] w fun e w' => e = .returned (.bool true) ∧ Keep (fun _ => False) w w' := by
  by_cases h : L.length ≤ 30
  · exact rdays_short hL hOK h day n0
  · obtain ⟨va, vc, rfl⟩ : ∃ p k, v = .slice p L.length k := let ⟨_, p, k, e, _⟩ := hL; ⟨p, k, e⟩
    have h' : ¬ (L.length : Int) ≤ 30 := by omega
    clear h hL
    go_enter Try.func13, Try.ntmps13
    go_wp2_with fail
    refine (alive19_any w).mono ?_
    rintro e w1 ⟨rfl, k1⟩
    go_wp2
    go_ret
    exact ⟨rfl, k1⟩
end Go.Proofs.Ytgnigkghkldcfaa
