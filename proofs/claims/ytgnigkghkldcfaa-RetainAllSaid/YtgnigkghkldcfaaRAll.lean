/-
  coldstorelaw19.RetainAll: true.
-/
import Derived.Test.YtgnigkghkldcfaaRAll1
namespace Go.Proofs.Ytgnigkghkldcfaa
open Go.RowKit Go.Proofs Go.Lib Go.Maps Go.Sort Go.Shelf

set_option maxRecDepth 100000 in
set_option maxHeartbeats 8000000 in
theorem rall_short {w : World} {v : Value} {L : List SnapR} (hL : SnapsAt w v L) (hOK : ∀ s ∈ L, SnapOK s) (h30 : L.length ≤ 30) (day0 : Int) :
    Calls Try.prog 15 #[v, .int .i64 day0] w fun e w' => e = .returned (.bool true) ∧ Keep (fun _ => False) w w' := by
  obtain ⟨va, vc, rfl⟩ : ∃ a c, v = .slice a L.length c := let ⟨_, a, c, e, _⟩ := hL; ⟨a, c, e⟩
  obtain ⟨m, em, -, hm1, hm2⟩ := mask_in 16 (by decide) 65535 (by decide) day0
  simp only [Nat.reducePow] at hm2
  obtain ⟨day, hday⟩ : ∃ d, d = 1 + m := ⟨_, rfl⟩
  have hwd : IntKind.i64.wrap (1 + m) = day := by rw [IntKind.wrap_i64]; omega
  have hday1 : 1 ≤ day ∧ day ≤ 65536 := by omega
  obtain ⟨P, hP⟩ := places_ex L
  obtain ⟨N, hN⟩ : ∃ N, N = L.length := ⟨_, rfl⟩
  have n30 : (N : Int) ≤ 30 := by omega
  have n30b : decide ((30 : Int) < N) = false := decide_eq_false (by omega)
  have g1 := fun (W : World) (h : SnapsAt W (.slice va N vc) L) => (gone_at (p := ⟨0, 0, 0, 0, []⟩) (most := 1000) (v := .slice va N vc) h hOK h30 (by unfold In64; dsimp only; omega) (by unfold In64; dsimp only; omega) (by unfold In64; dsimp only; omega) hP (days_none L (by dsimp only; omega)) (by omega) (by omega)).mono (R' := fun e w' => ∃ r c, e = .returned (.slice r N c) ∧ Keep (fun _ => False) W w') (by
    rintro e w' ⟨r, c, rfl, -, k⟩
    have e1 := gone_len (D := []) (n := 0) hP h30
    have e2 : L.length - min 0 L.length = N := by omega
    rw [e2] at e1
    rw [show ((0 : Nat) : Int) = 0 from rfl] at e1
    rw [e1]
    exact ⟨r, c, rfl, k⟩)
  have g2 := fun (W : World) (h : SnapsAt W (.slice va N vc) L) => (gone_at (p := ⟨(N : Int), 0, 0, 0, []⟩) (most := 1000) (v := .slice va N vc) h hOK h30 (by unfold In64; dsimp only; omega) (by unfold In64; dsimp only; omega) (by unfold In64; dsimp only; omega) hP (days_none L (by dsimp only; omega)) (by omega) (by omega)).mono (R' := fun e w' => ∃ r c, e = .returned (.slice r 0 c) ∧ Keep (fun _ => False) W w') (by
    rintro e w' ⟨r, c, rfl, -, k⟩
    have e1 := gone_len (D := []) (n := N) hP h30
    have e2 : L.length - min N L.length = 0 := by omega
    rw [e2] at e1
    rw [e1]
    exact ⟨r, c, rfl, k⟩)
  have hsort := fun (W : World) (h : SnapsAt W (.slice va N vc) L) (h0 : 0 < N) => snapSort_any h (ok32 hOK) (by omega) (by omega) hP
  have hkeep := fun (i : Nat) (hi : i < 3) (W : World) (h : SnapsAt W (.slice va N vc) L) (h0 : 0 < N) => (show Calls Try.prog 54 #[.slice va N vc, .agg (polCells (polN day i))] W fun e w' => ∃ g c B, e = .returned (.slice (some ⟨g, 0, none⟩) N c) ∧ Keep (fun _ => False) W w' ∧ BoolsAt w' g B ∧ B.length = N ∧ isTop L B (rowOf L P)[N - 1]! N = true by
    obtain ⟨D, hD⟩ := days_ex L (polN day i).day
    have hin : In64 (polN day i).last ∧ In64 (polN day i).days ∧ In64 (polN day i).within := by
      unfold In64
      match i, hi with
      | 0, _ => exact ⟨by show _ ≤ (1 : Int) ∧ (1 : Int) ≤ _; omega, by show _ ≤ (0 : Int) ∧ (0 : Int) ≤ _; omega, by show _ ≤ (0 : Int) ∧ (0 : Int) ≤ _; omega⟩
      | 1, _ => exact ⟨by show _ ≤ (0 : Int) ∧ (0 : Int) ≤ _; omega, by show _ ≤ (1 : Int) ∧ (1 : Int) ≤ _; omega, by show _ ≤ (0 : Int) ∧ (0 : Int) ≤ _; omega⟩
      | 2, _ => exact ⟨by show _ ≤ (0 : Int) ∧ (0 : Int) ≤ _; omega, by show _ ≤ (0 : Int) ∧ (0 : Int) ≤ _; omega, by show _ ≤ (1 : Int) ∧ (1 : Int) ≤ _; omega⟩
    refine (keep_at h hOK h30 hin.1 hin.2.1 hin.2.2 hP hD).mono ?_
    rintro e w' ⟨g, c, rfl, k, hb⟩
    refine ⟨g, c, _, by rw [hN], k, hb, by rw [keepB_len, hN], ?_⟩
    rw [hN]
    exact isTop_all hP (by omega) (top_kept hP (by omega) hday1.1 hD))
  rw [← hN] at hL hsort ⊢
  have HT := Lib.hid (show 0 < N → (rowOf L P)[N - 1]? = some (rowOf L P)[N - 1]! ∧ Snaps32 (rowOf L P) ∧ (rowOf L P).length = N from fun h => by
    have hl := rowOf_len hP
    exact ⟨by rw [getElem!_pos (rowOf L P) (N - 1) (by omega), List.getElem?_eq_getElem], snaps_rowOf (ok32 hOK) hP, by omega⟩)
  obtain ⟨S, hS⟩ : ∃ S, S = rowOf L P := ⟨_, rfl⟩
  rw [← hS] at HT hsort hkeep
  have HL := Lib.hid hL; have HOK := Lib.hid hOK; have HN := Lib.hid hN; have HG1 := Lib.hid g1; have HG2 := Lib.hid g2; have HSO := Lib.hid hsort; have HKE := Lib.hid hkeep
  clear hL hOK h30 hP hN g1 g2 hsort hkeep hday hm1 hm2 hS
  have HD1 := Lib.hid hday1; clear hday1
  go_enter Try.func15, Try.ntmps15
  go_wp2_with fail
  refine (alive19_any _).mono ?_
  rintro e w1 ⟨rfl, k1⟩
  have HL1 := Lib.hid (HL.out.keep k1 (fun _ _ e => e)); have HK1 := Lib.hid k1
  clear k1
  go_wp2_with fail
  refine (HG1.out _ HL1.out).mono ?_
  rintro e w2 ⟨r1, c1, rfl, k2⟩
  have HL2 := Lib.hid (HL1.out.keep k2 (fun _ _ e => e)); have HK2 := Lib.hid (HK1.out.trans k2)
  clear k2 HL1 HK1
  go_wp2_with fail
  refine (HG2.out _ HL2.out).mono ?_
  rintro e w3 ⟨r2, c2, rfl, k3⟩
  have HL3 := Lib.hid (HL2.out.keep k3 (fun _ _ e => e)); have HK3 := Lib.hid (HK2.out.trans k3)
  clear k3 HL2 HK2
  by_cases h0 : 0 < N
  · have h0z : ((N : Int) == 0) = false := by simp; omega
    have H0 := Lib.hid h0
    go_wp2_with fail
    refine (HSO.out _ HL3.out H0.out).mono ?_
    rintro e w4 ⟨gs, cs, rfl, hs4, k4⟩
    obtain ⟨t1, t2, t3⟩ := HT.out H0.out
    obtain ⟨T, hT⟩ : ∃ T, T = S[N - 1]! := ⟨_, rfl⟩
    rw [← hT] at t1
    have hld := SnapsAt.load hs4 t2 t1
    have hT32 := t2 T (List.mem_of_getElem? t1)
    obtain ⟨A, hA⟩ : ∃ A, A = (snapCells T).toArray := ⟨_, rfl⟩
    have az : A.size = 37 := by rw [hA]; simpa using snapCells_len hT32
    have a1 : A.all (·.oneCell') = true := by rw [hA]; exact snap_one T
    have hia : (Try.prog.info? 108).map (·.size) = some A.size := by rw [az]; exact infoSnap
    rw [← hA] at hld
    obtain ⟨M, hM⟩ : ∃ M, M = N - 1 := ⟨_, rfl⟩
    have hMz : (N : Int) - 1 = (M : Int) := by omega
    have m1 : (0 : Int) ≤ M := by omega
    have m2 : (M : Int) < N := by omega
    rw [← hM, Nat.zero_add] at hld
    have HLD := Lib.hid hld; have HT := Lib.hid hT; have HA := Lib.hid hA; have HAZ := Lib.hid az; have HA1 := Lib.hid a1; have HIA := Lib.hid hia; have HM := Lib.hid hM; have HT32 := Lib.hid hT32
    have HL4 := Lib.hid (HL3.out.keep k4 (fun _ _ e => e)); have HK4 := Lib.hid (HK3.out.trans k4)
    clear hs4 k4 t1 t2 t3 hld hT hA az a1 hia hM hT32 HL3 HK3
    go_wp2_with (first
      | (refine wpList_load_run rfl 108 (.tmp 45) rfl _ rfl _ HLD.out ?_)
      | (refine wpList_store_box rfl 108 (.tmp 6) (.tmp 46) rfl w4.heap.size A (by rfl) (by rfl) (alloc_new _ _) HIA.out (by rw [HAZ.out]; kernel_rfl) HA1.out ?_; intro W5 hB5 kB5
         have HB5 := Lib.hid hB5
         have HK5 := Lib.hid ((HK4.out.alloc _).trans' kB5 (fun _ _ e => e) (fun i hi e => by have := HK4.out.size; omega)); clear hB5 kB5)
      | (refine wpList_build_pols rfl (.tmp 47) (.tmp 49) (.tmp 50) rfl _ _ _ rfl rfl rfl rfl rfl rfl ?_; intro W6 hB6 kB6; have HB6 := Lib.hid (show W6.heap[W5.heap.size]? = some (.cells (polsL day).toArray 95 (0, 0)) from hB6); have HT6 := Lib.hid (kB6.heap HB5.out id); have HK6 := Lib.hid (HK5.out.trans kB6); clear hB6 kB6 HB5 HK5))
    obtain ⟨tb, htb⟩ : ∃ b, b = w4.heap.size := ⟨_, rfl⟩
    obtain ⟨pb, hpb⟩ : ∃ b, b = W5.heap.size := ⟨_, rfl⟩
    rw [← htb, ← hpb]
    rw [← htb] at HT6
    rw [← hpb] at HB6
    clear htb hpb HLD HAZ HA1 HIA HK4 HL4 HG1 HG2 HSO hMz m1 m2
    go_loopg [53] 3 (fun g v53 wr => ∃ i : Nat, i ≤ 3 ∧ g = 3 - i ∧ v53 = .int .i64 i ∧ Hid (Keep (fun _ => False) W6 wr))
    case atStart => exact ⟨0, Nat.zero_le _, rfl, rfl, Keep.refl _ _⟩
    case round =>
      obtain ⟨i, hi, hg, rfl, HKW⟩ := hrel
      by_cases hlt : i < 3
      · have hld := polN_load (HKW.out.heap HB6.out id) hlt
        have hk := HKE.out i hlt
        have hp1 := pol_one' (polN day i)
        obtain ⟨pol, hpol⟩ : ∃ p, p = polN day i := ⟨_, rfl⟩
        rw [← hpol] at hld hk hp1
        have hip : (Try.prog.info? 95).map (·.size) = some (polCells pol).size := infoPolicy
        have hzp : (polCells pol).size = 5 := rfl
        obtain ⟨PA, hPA⟩ : ∃ A, A = polCells pol := ⟨_, rfl⟩
        rw [← hPA] at hld hk hp1 hip hzp
        have i1 : (0 : Int) ≤ i := by omega
        have i2 : (i : Int) < 3 := by omega
        have HG := Lib.hid hg; have HLD := Lib.hid hld; have HKK := Lib.hid hk; have HP1 := Lib.hid hp1; have HIP := Lib.hid hip; have HZP := Lib.hid hzp
        have HLW := Lib.hid (HL.out.keep (HK6.out.trans HKW.out) (fun _ _ e => e))
        clear hg hld hk hp1 hip hzp hpol hPA hi hlt
        go_wp2_with (first
          | (refine wpList_load_run rfl 95 (.tmp 55) rfl _ rfl _ HLD.out ?_)
          | (refine wpList_store_box rfl 95 (.tmp 8) (.tmp 56) rfl wr.heap.size PA (by rfl) (by rfl) (alloc_new _ _) HIP.out (by rw [HZP.out]; kernel_rfl) HP1.out ?_; intro W7 hB7 kB7
             have HK7 := Lib.hid (((Keep.refl (fun _ => False) wr).alloc _).trans' kB7 (fun _ _ e => e) (fun i hi e => by omega))
             have HLD7 := Lib.hid (load_box (P := Try.prog) (ty := 95) hB7 Try.underlying95 rfl HIP.out); clear hB7 kB7)
          | (refine wpList_load_run rfl 95 (.tmp 8) rfl _ rfl _ HLD7.out ?_))
        refine (HKK.out _ (HLW.out.keep HK7.out (fun _ _ e => e)) H0.out).mono ?_
        rintro e W8 ⟨g, c, B, rfl, k8, hB, hBl, hTop⟩
        have HK8 := Lib.hid (HKW.out.trans (HK7.out.trans k8)); have HB := Lib.hid hB; have HBL := Lib.hid hBl; have HTOP := Lib.hid hTop
        clear k8 hB hBl hTop HLD HKK HP1 HIP HZP HLW HK7 HLD7 HKW
        go_wp2
        go_loopg [9, 61] N (fun g v9 v61 wr => ∃ k : Nat, k ≤ N ∧ g = N - k ∧ v9 = .bool (isTop L B T k) ∧ v61 = .int .i64 k ∧ Hid (Keep (fun _ => False) W8 wr))
        case atStart => exact ⟨0, Nat.zero_le _, rfl, rfl, rfl, Keep.refl _ _⟩
        case round =>
          obtain ⟨k, hk, hg, rfl, rfl, HKW⟩ := hrel
          by_cases hlt : k < N
          · obtain ⟨s, hs⟩ : ∃ s, L[k]? = some s := ⟨_, List.getElem?_eq_getElem (by rw [← HN.out]; exact hlt)⟩
            obtain ⟨b, hb⟩ : ∃ b, B[k]? = some b := ⟨_, List.getElem?_eq_getElem (by rw [HBL.out]; exact hlt)⟩
            have hSl := HL.out.keep (HK6.out.trans (HK8.out.trans HKW.out.drew)) (fun _ _ e => e)
            obtain ⟨bb, oo, cc', ev, _, _⟩ := Sl.base hSl (by rw [← HN.out]; omega)
            cases ev
            have hld := SnapsAt.load hSl (ok32 HOK.out) hs
            have hs32 := ok32 HOK.out s (List.mem_of_getElem? hs)
            have cB := (HB.out.keep HKW.out id).at hb
            have htl := load_box (P := Try.prog) (ty := 108) (HKW.out.drew.heap (HK8.out.heap HT6.out id) id) Try.underlying108 rfl (by
              have h1 : A.size = 37 := by rw [HA.out]; simpa using snapCells_len HT32.out
              rw [h1]; exact infoSnap)
            have hstep : isTop L B T (k + 1) = (isTop L B T k || (b && eqS s T)) := by
              rw [isTop_step, List.getElem!_eq_getElem?_getD, hb, List.getElem!_eq_getElem?_getD, hs]; rfl
            have heq := fun W => eql_snap hs32 HT32.out W
            rw [← HA.out] at heq
            obtain ⟨A2, hA2⟩ : ∃ A2, A2 = (snapCells s).toArray := ⟨_, rfl⟩
            rw [← hA2] at heq hld
            obtain ⟨x, hx⟩ : ∃ x, x = eqS s T := ⟨_, rfl⟩
            rw [← hx] at heq hstep
            obtain ⟨ac, hac⟩ : ∃ a, a = isTop L B T k := ⟨_, rfl⟩
            rw [← hac] at hstep ⊢
            have i3 : (0 : Int) ≤ k := by omega
            have i5 : (k : Int) < L.length := by omega
            have heg := Try.eqGuardType108
            have HGI := Lib.hid hg; have HLD := Lib.hid hld; have HTL := Lib.hid htl; have HST := Lib.hid hstep; have HLT := Lib.hid hlt
            clear hg hs hb hSl hld hs32 htl hstep hA2 hx hac hk hlt
            cases ac
            · cases b
              · go_wp2_with fail
                refine wp_region_still_lit (by kernel_rfl) (by kernel_rfl) ?_
                iterate 4 (with_reducible refine still_at ?hw (fun K hK => ?_); (case hw => kernel_rfl); go_simp; with_reducible refine hK _ ?_; clear hK K)
                (iterate 6 (with_reducible refine skip_at ?hw ?_; case hw => kernel_rfl))
                iterate 3 (with_reducible refine still_at ?hw (fun K hK => ?_); (case hw => kernel_rfl); go_simp; with_reducible refine hK _ ?_; clear hK K)
                with_reducible refine wpStill_nil ?_
                go_wp2
                go_roundg (L.length - (k + 1))
                case measure => have := HGI.out; have := HLT.out; omega
                case rel => exact ⟨k + 1, HLT.out, rfl, by rw [HST.out]; rfl, by go_num, HKW.out.drew⟩
              · go_wp2_with fail
                refine wp_region_still_lit (by kernel_rfl) (by kernel_rfl) ?_
                iterate 7 (with_reducible refine still_at ?hw (fun K hK => ?_); (case hw => kernel_rfl); go_simp; with_reducible refine hK _ ?_; clear hK K)
                refine wpStill_load (by kernel_rfl) 108 (.tmp 72) rfl rfl HLD.out ?_
                refine wpStill_load (by kernel_rfl) 108 (.tmp 6) rfl rfl HTL.out ?_
                iterate 4 (with_reducible refine still_at ?hw (fun K hK => ?_); (case hw => kernel_rfl); go_simp; with_reducible refine hK _ ?_; clear hK K)
                with_reducible refine wpStill_nil ?_
                go_wp2
                go_roundg (L.length - (k + 1))
                case measure => have := HGI.out; have := HLT.out; omega
                case rel => exact ⟨k + 1, HLT.out, rfl, by rw [HST.out]; rfl, by go_num, HKW.out.drew⟩
            · go_wp2_with fail
              refine wp_region_still_lit (by kernel_rfl) (by kernel_rfl) ?_
              iterate 2 (with_reducible refine still_at ?hw (fun K hK => ?_); (case hw => kernel_rfl); go_simp; with_reducible refine hK _ ?_; clear hK K)
              (iterate 9 (with_reducible refine skip_at ?hw ?_; case hw => kernel_rfl))
              iterate 2 (with_reducible refine still_at ?hw (fun K hK => ?_); (case hw => kernel_rfl); go_simp; with_reducible refine hK _ ?_; clear hK K)
              with_reducible refine wpStill_nil ?_
              go_wp2
              go_roundg (L.length - (k + 1))
              case measure => have := HGI.out; have := HLT.out; omega
              case rel => exact ⟨k + 1, HLT.out, rfl, by rw [HST.out]; rfl, by go_num, HKW.out.drew⟩
          · have hkN : k = N := by omega
            subst hkN
            have hTop : isTop L B T k = true := by rw [HT.out]; exact HTOP.out
            rw [hTop]
            have HKF := Lib.hid (HK8.out.trans HKW.out)
            clear hg hlt hk hTop HKW HK8
            go_wp2
            go_roundg (3 - (i + 1))
            case measure => have := HG.out; omega
            case rel => exact ⟨i + 1, by omega, rfl, by go_num, HKF.out⟩
      · have h3 : i = 3 := by omega
        subst h3
        have HKF := Lib.hid (HK6.out.trans HKW.out)
        clear hg hi hlt HKW HK6
        go_wp2
        go_ret
        exact ⟨rfl, HKF.out⟩
  · obtain rfl : N = 0 := by omega
    go_wp2
    go_ret
    exact ⟨rfl, HK3.out⟩

set_option maxRecDepth 100000 in
theorem rall_any {w : World} {v : Value} {L : List SnapR} (hL : SnapsAt w v L) (hOK : ∀ s ∈ L, SnapOK s) (day : Int) (_hd : -9223372036854775808 ≤ day ∧ day ≤ 9223372036854775807) :
    Calls Try.prog 15 #[v, .int .i64 day] w fun e w' => e = .returned (.bool true) ∧ Keep (fun _ => False) w w' := by
  by_cases h : L.length ≤ 30
  · exact rall_short hL hOK h day
  · obtain ⟨va, vc, rfl⟩ : ∃ p k, v = .slice p L.length k := let ⟨_, p, k, e, _⟩ := hL; ⟨p, k, e⟩
    have h' : ¬ (L.length : Int) ≤ 30 := by omega
    clear h hL
    go_enter Try.func15, Try.ntmps15
    go_wp2_with fail
    refine (alive19_any w).mono ?_
    rintro e w1 ⟨rfl, k1⟩
    go_wp2
    go_ret
    exact ⟨rfl, k1⟩
end Go.Proofs.Ytgnigkghkldcfaa
