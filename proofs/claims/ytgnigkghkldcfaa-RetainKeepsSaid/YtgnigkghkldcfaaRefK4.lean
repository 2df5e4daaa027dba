/-
  coldstoreref19.After, latest.
-/
import Derived.Test.YtgnigkghkldcfaaRefK3
namespace Go.Proofs.Ytgnigkghkldcfaa
open Go.RowKit Go.Proofs Go.Lib Go.Maps Go.Sort Go.Shelf

def afterTo (L : List SnapR) (i k : Nat) : Nat := (List.range k).countP (fun k => decide (k ≠ i) && behindR L k i)
theorem afterTo_step (L : List SnapR) (i k : Nat) : afterTo L i (k + 1) = afterTo L i k + (if decide (k ≠ i) && behindR L k i then 1 else 0) := by
  unfold afterTo
  rw [List.range_succ, List.countP_append, List.countP_cons, List.countP_nil]
  simp
theorem afterTo_le (L : List SnapR) (i k : Nat) : afterTo L i k ≤ k := by
  unfold afterTo
  exact Nat.le_trans List.countP_le_length (by rw [List.length_range]; exact Nat.le_refl _)

set_option maxRecDepth 100000 in
set_option maxHeartbeats 4000000 in
theorem after_any {w : World} {v : Value} {L : List SnapR} (hL : SnapsAt w v L) (h32 : Snaps32 L) {i : Nat} (hi : i < L.length) (h40 : L.length < 40) :
    Calls Try.prog 89 #[v, .int .i64 i] w fun e w' => e = .returned (.int .i64 (afterR L i)) ∧ Keep (fun _ => False) w w' := by
  obtain ⟨va, vc, rfl⟩ : ∃ a c, v = .slice a L.length c := let ⟨_, a, c, e, _⟩ := hL; ⟨a, c, e⟩
  have hbe := fun (W : World) (K : Keep (fun _ => False) w W) (k : Nat) (hk : k < L.length) => behind_any (hL.keep K (fun _ _ e => e)) h32 hk hi h40
  have hfin : afterR L i = afterTo L i L.length := rfl
  rw [hfin]
  obtain ⟨N, hN⟩ : ∃ N, N = L.length := ⟨_, rfl⟩
  rw [← hN] at hbe hi h40 ⊢
  have HBE := Lib.hid hbe
  have j1 : (0 : Int) ≤ i := by omega
  have j2 : (i : Int) < N := by omega
  clear hL h32 hbe hfin hN hi
  go_enter Try.func89, Try.ntmps89
  go_wp2
  go_loopg [5, 6] N (fun g v5 v6 wr => ∃ k : Nat, k ≤ N ∧ g = N - k ∧ v6 = .int .i64 k ∧ v5 = .int .i64 (afterTo L i k) ∧ Hid (Keep (fun _ => False) w wr))
  case atStart => exact ⟨0, Nat.zero_le _, rfl, rfl, rfl, Keep.refl _ _⟩
  case round =>
    obtain ⟨k, hk, hg, rfl, rfl, HK⟩ := hrel
    by_cases hlt : k < N
    · have hstep := afterTo_step L i k
      have hle := afterTo_le L i k
      have i1 : (0 : Int) ≤ k := by omega
      have i2 : (k : Int) < N := by omega
      obtain ⟨x, hx⟩ : ∃ x, x = afterTo L i k := ⟨_, rfl⟩
      rw [← hx] at hstep hle ⊢
      have HG := Lib.hid hg; have HLT := Lib.hid hlt
      by_cases hki : k = i
      · have e : ((k : Int) == (i : Int)) = true := by simp; omega
        have HS := Lib.hid (show afterTo L i (k + 1) = x by rw [hstep, decide_eq_false (by simpa using hki)]; simp)
        clear hstep hg hlt hk hx e
        subst hki
        go_wp2
        go_roundg (N - (k + 1))
        case measure => have := HG.out; have := HLT.out; omega
        case rel => exact ⟨k + 1, HLT.out, rfl, by go_num, by rw [HS.out], HK.out⟩
      · have e : ((k : Int) == (i : Int)) = false := by simp; omega
        have hd : decide (k ≠ i) = true := decide_eq_true hki
        rw [hd, Bool.true_and] at hstep
        have HCB := Lib.hid (HBE.out wr HK.out k hlt)
        obtain ⟨b, hb⟩ : ∃ b, b = behindR L k i := ⟨_, rfl⟩
        rw [← hb] at hstep HCB
        have HST := Lib.hid hstep
        clear hstep hg hlt hk hx hb hd
        go_wp2_with fail
        refine HCB.out.mono ?_
        rintro e w2 ⟨rfl, k2⟩
        have HK2 := Lib.hid (HK.out.trans k2)
        have HS2 := Lib.hid HST.out
        clear k2 HST HCB
        cases b
        all_goals
          go_wp2
          go_roundg (N - (k + 1))
          case measure => have := HG.out; have := HLT.out; omega
          case rel => exact ⟨k + 1, HLT.out, rfl, by go_num, by rw [HS2.out]; go_num, HK2.out⟩
    · have hkN : k = N := by omega
      subst hkN
      clear hg hk hlt
      go_wp2
      go_ret
      exact ⟨rfl, HK.out⟩

set_option maxRecDepth 100000 in
set_option maxHeartbeats 8000000 in
theorem latest_any {w : World} {v : Value} {L : List SnapR} (hL : SnapsAt w v L) (h32 : Snaps32 L) (ht : ∀ s ∈ L, In64 s.time) {i : Nat} (hi : i < L.length) (h40 : L.length < 40) {day : Int} (hd1 : 1 ≤ day) (hd2 : In64 day) :
    Calls Try.prog 90 #[v, .int .i64 i, .int .i64 day] w fun e w' => e = .returned (.bool (latestR L day i)) ∧ Keep (fun _ => False) w w' := by
  obtain ⟨lb, lo, vc, rfl, _, _⟩ := Sl.base hL (by omega)
  have hbe := fun (W : World) (K : Keep (fun _ => False) w W) (k : Nat) (hk : k < L.length) => behind_any (hL.keep K (fun _ _ e => e)) h32 hk hi h40
  have hc : ∀ (W : World) (K : Keep (fun _ => False) w W) (k : Nat) (s : SnapR), L[k]? = some s → W.cell? ⟨lb, lo + k * 37, none⟩ = some (.int .i64 s.time) := fun W K k s hs => by
    have := ((hL.keep K (fun _ _ e => e)).range h32 hs) 0 (.int .i64 s.time) rfl
    simpa using this
  obtain ⟨si, hsi⟩ : ∃ s, L[i]? = some s := ⟨_, List.getElem?_eq_getElem hi⟩
  have hti := ht si (List.mem_of_getElem? hsi)
  have ei : L[i]! = si := by rw [List.getElem!_eq_getElem?_getD, hsi]; rfl
  obtain ⟨N, hN⟩ : ∃ N, N = L.length := ⟨_, rfl⟩
  rw [← hN] at hbe hi h40 ⊢
  have hday := fun (W : World) (t : Int) (h : In64 t) => rday_any h hd1 hd2 W
  have HBE := Lib.hid hbe; have HC := Lib.hid hc; have HN := Lib.hid hN; have HDAY := Lib.hid hday; have HT := Lib.hid ht; have HTI := Lib.hid hti
  have HCI := Lib.hid (fun (W : World) (K : Keep (fun _ => False) w W) => hc W K i si hsi)
  have HEI := Lib.hid ei
  have j1 : (0 : Int) ≤ i := by omega
  have j2 : (i : Int) < N := by omega
  clear hL h32 hbe hc hN hi hday ht hti hsi ei hd1 hd2
  go_enter Try.func90, Try.ntmps90
  go_wp2
  go_loopg [7] N (fun g v7 wr => ∃ k : Nat, k ≤ N ∧ g = N - k ∧ v7 = .int .i64 k ∧ Hid (∀ j, j < k → (decide (j ≠ i) && (L[j]!.time / day == L[i]!.time / day) && behindR L j i) = false) ∧ Hid (Keep (fun _ => False) w wr))
  case atStart => exact ⟨0, Nat.zero_le _, rfl, rfl, (fun j h => absurd h (Nat.not_lt_zero _)), Keep.refl _ _⟩
  case round =>
    obtain ⟨k, hk, hg, rfl, HA, HK⟩ := hrel
    by_cases hlt : k < N
    · obtain ⟨s, hs⟩ : ∃ s, L[k]? = some s := ⟨_, List.getElem?_eq_getElem (by rw [← HN.out]; exact hlt)⟩
      have ek : L[k]! = s := by rw [List.getElem!_eq_getElem?_getD, hs]; rfl
      have hts := HT.out s (List.mem_of_getElem? hs)
      have HCK := Lib.hid (fun (W : World) (K : Keep (fun _ => False) wr W) => HC.out W (HK.out.trans K) k s hs)
      have HCI' := Lib.hid (fun (W : World) (K : Keep (fun _ => False) wr W) => HCI.out W (HK.out.trans K))
      have HCB := Lib.hid (fun (W : World) (K : Keep (fun _ => False) wr W) => HBE.out W (HK.out.trans K) k hlt)
      have HD1 := Lib.hid (fun (W : World) => HDAY.out W s.time hts)
      have HD2 := Lib.hid (fun (W : World) => HDAY.out W si.time HTI.out)
      have hnow : (decide (k ≠ i) && (L[k]!.time / day == L[i]!.time / day) && behindR L k i) = (decide (k ≠ i) && (s.time / day == si.time / day) && behindR L k i) := by rw [ek, HEI.out]
      obtain ⟨ts, hts2⟩ : ∃ ts, ts = s.time := ⟨_, rfl⟩
      obtain ⟨ti, hti2⟩ : ∃ ti, ti = si.time := ⟨_, rfl⟩
      rw [← hts2] at HCK HD1 hnow; rw [← hti2] at HCI' HD2 hnow
      obtain ⟨x, hx⟩ : ∃ x, x = ts / day := ⟨_, rfl⟩
      obtain ⟨y, hy⟩ : ∃ y, y = ti / day := ⟨_, rfl⟩
      rw [← hx] at HD1 hnow; rw [← hy] at HD2 hnow
      obtain ⟨b, hb⟩ : ∃ b, b = behindR L k i := ⟨_, rfl⟩
      have hnow2 := hnow
      rw [← hb] at hnow2 HCB
      have i1 : (0 : Int) ≤ k := by omega
      have i2 : (k : Int) < N := by omega
      have HNOW := Lib.hid hnow2; have HNOW0 := Lib.hid hnow
      have HG := Lib.hid hg; have HLT := Lib.hid hlt
      by_cases hki : k = i
      · have e : ((k : Int) == (i : Int)) = true := by simp; omega
        have HF := Lib.hid (show ∀ j, j < k + 1 → (decide (j ≠ i) && (L[j]!.time / day == L[i]!.time / day) && behindR L j i) = false from fun j hj => by
          by_cases h : j = k
          · rw [h, HNOW0.out, decide_eq_false (by simpa using hki)]; rfl
          · exact HA.out j (by omega))
        clear hnow hnow2 hg hlt hk hts2 hti2 hx hy hb hs ek hts e
        subst hki
        go_wp2_with fail
        refine region_keep (by kernel_rfl) (by kernel_rfl) ?_
        (with_reducible refine quiet_at ?hw (.int .i64 (k : Int)) (fun w' hw' => ?h1) (fun K hK => ?_); (case hw => kernel_rfl); (case h1 => go_simp); go_simp; with_reducible refine hK _ ?_; clear hK K)
        (with_reducible refine quiet_at ?hw (.int .i64 (k : Int)) (fun w' hw' => ?h1) (fun K hK => ?_); (case hw => kernel_rfl); (case h1 => go_simp); go_simp; with_reducible refine hK _ ?_; clear hK K)
        (with_reducible refine quiet_at ?hw (.bool false) (fun w' hw' => ?h1) (fun K hK => ?_); (case hw => kernel_rfl); (case h1 => go_simp); go_simp; with_reducible refine hK _ ?_; clear hK K)
        (with_reducible refine quiet_at ?hw (.bool false) (fun w' hw' => ?h1) (fun K hK => ?_); (case hw => kernel_rfl); (case h1 => go_simp); go_simp; with_reducible refine hK _ ?_; clear hK K)
        (with_reducible refine quiet_skip ?hw ?_; case hw => kernel_rfl)
        (with_reducible refine quiet_skip ?hw ?_; case hw => kernel_rfl)
        (with_reducible refine quiet_skip ?hw ?_; case hw => kernel_rfl)
        (with_reducible refine quiet_skip ?hw ?_; case hw => kernel_rfl)
        (with_reducible refine quiet_skip ?hw ?_; case hw => kernel_rfl)
        (with_reducible refine quiet_skip ?hw ?_; case hw => kernel_rfl)
        (with_reducible refine quiet_skip ?hw ?_; case hw => kernel_rfl)
        (with_reducible refine quiet_skip ?hw ?_; case hw => kernel_rfl)
        (with_reducible refine quiet_skip ?hw ?_; case hw => kernel_rfl)
        (with_reducible refine quiet_skip ?hw ?_; case hw => kernel_rfl)
        (with_reducible refine quiet_skip ?hw ?_; case hw => kernel_rfl)
        (with_reducible refine quiet_skip ?hw ?_; case hw => kernel_rfl)
        (with_reducible refine quiet_skip ?hw ?_; case hw => kernel_rfl)
        (with_reducible refine quiet_skip ?hw ?_; case hw => kernel_rfl)
        (with_reducible refine quiet_skip ?hw ?_; case hw => kernel_rfl)
        (with_reducible refine quiet_at ?hw (.bool false) (fun w' hw' => ?h1) (fun K hK => ?_); (case hw => kernel_rfl); (case h1 => go_simp); go_simp; with_reducible refine hK _ ?_; clear hK K)
        (with_reducible refine quiet_at ?hw (.bool false) (fun w' hw' => ?h1) (fun K hK => ?_); (case hw => kernel_rfl); (case h1 => go_simp); go_simp; with_reducible refine hK _ ?_; clear hK K)
        (with_reducible refine quiet_skip ?hw ?_; case hw => kernel_rfl)
        (with_reducible refine quiet_skip ?hw ?_; case hw => kernel_rfl)
        (with_reducible refine quiet_skip ?hw ?_; case hw => kernel_rfl)
        (with_reducible refine quiet_skip ?hw ?_; case hw => kernel_rfl)
        (with_reducible refine quiet_at ?hw (.bool false) (fun w' hw' => ?h1) (fun K hK => ?_); (case hw => kernel_rfl); (case h1 => go_simp); go_simp; with_reducible refine hK _ ?_; clear hK K)
        with_reducible refine wpQuiet_nil ?_
        intro W1 K1
        have HK1 := Lib.hid (HK.out.trans K1)
        clear K1
        go_wp2
        go_roundg (N - (k + 1))
        case measure => have := HG.out; have := HLT.out; omega
        case rel => exact ⟨k + 1, HLT.out, rfl, by go_num, HF.out, HK1.out⟩
      · have hd : decide (k ≠ i) = true := decide_eq_true hki
        rw [hd, Bool.true_and] at hnow
        have HNX := Lib.hid hnow
        have HB := Lib.hid hb
        clear hnow hnow2 hg hlt hk hts2 hti2 hx hy hb hs ek hts hd
        by_cases hxy : x = y
        · have e : (x == y) = true := by simpa using hxy
          cases b
          case false =>
            have HF := Lib.hid (show ∀ j, j < k + 1 → (decide (j ≠ i) && (L[j]!.time / day == L[i]!.time / day) && behindR L j i) = false from fun j hj => by
              by_cases h : j = k
              · rw [h, ← HB.out, Bool.and_false]
              · exact HA.out j (by omega))
            clear hxy
            go_wp2_with fail
            refine region_keep (by kernel_rfl) (by kernel_rfl) ?_
            (with_reducible refine quiet_at ?hw (.int .i64 (k : Int)) (fun w' hw' => ?h1) (fun K hK => ?_); (case hw => kernel_rfl); (case h1 => go_simp); go_simp; with_reducible refine hK _ ?_; clear hK K)
            (with_reducible refine quiet_at ?hw (.int .i64 (i : Int)) (fun w' hw' => ?h1) (fun K hK => ?_); (case hw => kernel_rfl); (case h1 => go_simp); go_simp; with_reducible refine hK _ ?_; clear hK K)
            (with_reducible refine quiet_at ?hw (.bool true) (fun w' hw' => ?h1) (fun K hK => ?_); (case hw => kernel_rfl); (case h1 => go_simp; omega); go_simp; with_reducible refine hK _ ?_; clear hK K)
            (with_reducible refine quiet_at ?hw (.bool true) (fun w' hw' => ?h1) (fun K hK => ?_); (case hw => kernel_rfl); (case h1 => go_simp); go_simp; with_reducible refine hK _ ?_; clear hK K)
            (with_reducible refine quiet_at ?hw (.slice (some ⟨lb, lo, none⟩) N vc) (fun w' hw' => ?h1) (fun K hK => ?_); (case hw => kernel_rfl); (case h1 => go_simp); go_simp; with_reducible refine hK _ ?_; clear hK K)
            (with_reducible refine quiet_at ?hw (.int .i64 (k : Int)) (fun w' hw' => ?h1) (fun K hK => ?_); (case hw => kernel_rfl); (case h1 => go_simp); go_simp; with_reducible refine hK _ ?_; clear hK K)
            (with_reducible refine quiet_at ?hw (.pointer (some ⟨lb, lo + k * 37, none⟩)) (fun w' hw' => ?h1) (fun K hK => ?_); (case hw => kernel_rfl); (case h1 => go_simp); go_simp; with_reducible refine hK _ ?_; clear hK K)
            (with_reducible refine quiet_at ?hw (.pointer (some ⟨lb, lo + k * 37, none⟩)) (fun w' hw' => ?h1) (fun K hK => ?_); (case hw => kernel_rfl); (case h1 => go_simp); go_simp; with_reducible refine hK _ ?_; clear hK K)
            (with_reducible refine quiet_at ?hw (.int .i64 ts) (fun w' hw' => ?h1) (fun K hK => ?_); (case hw => kernel_rfl); (case h1 => have cc := HCK.out w' hw'; go_simp); go_simp; with_reducible refine hK _ ?_; clear hK K)
            (with_reducible refine quiet_at ?hw (.int .i64 day) (fun w' hw' => ?h1) (fun K hK => ?_); (case hw => kernel_rfl); (case h1 => go_simp); go_simp; with_reducible refine hK _ ?_; clear hK K)
            (with_reducible refine quiet_at ?hw (.int .i64 x) (fun w' hw' => ?h1) (fun K hK => ?_); (case hw => kernel_rfl); (case h1 => go_simp; exact (HD1.out w').mono fun e w'' h => ⟨h.1, by rw [h.2]; exact hw'⟩); go_simp; with_reducible refine hK _ ?_; clear hK K)
            (with_reducible refine quiet_at ?hw (.slice (some ⟨lb, lo, none⟩) N vc) (fun w' hw' => ?h1) (fun K hK => ?_); (case hw => kernel_rfl); (case h1 => go_simp); go_simp; with_reducible refine hK _ ?_; clear hK K)
            (with_reducible refine quiet_at ?hw (.int .i64 (i : Int)) (fun w' hw' => ?h1) (fun K hK => ?_); (case hw => kernel_rfl); (case h1 => go_simp); go_simp; with_reducible refine hK _ ?_; clear hK K)
            (with_reducible refine quiet_at ?hw (.pointer (some ⟨lb, lo + i * 37, none⟩)) (fun w' hw' => ?h1) (fun K hK => ?_); (case hw => kernel_rfl); (case h1 => go_simp); go_simp; with_reducible refine hK _ ?_; clear hK K)
            (with_reducible refine quiet_at ?hw (.pointer (some ⟨lb, lo + i * 37, none⟩)) (fun w' hw' => ?h1) (fun K hK => ?_); (case hw => kernel_rfl); (case h1 => go_simp); go_simp; with_reducible refine hK _ ?_; clear hK K)
            (with_reducible refine quiet_at ?hw (.int .i64 ti) (fun w' hw' => ?h1) (fun K hK => ?_); (case hw => kernel_rfl); (case h1 => have cc := HCI'.out w' hw'; go_simp); go_simp; with_reducible refine hK _ ?_; clear hK K)
            (with_reducible refine quiet_at ?hw (.int .i64 day) (fun w' hw' => ?h1) (fun K hK => ?_); (case hw => kernel_rfl); (case h1 => go_simp); go_simp; with_reducible refine hK _ ?_; clear hK K)
            (with_reducible refine quiet_at ?hw (.int .i64 y) (fun w' hw' => ?h1) (fun K hK => ?_); (case hw => kernel_rfl); (case h1 => go_simp; exact (HD2.out w').mono fun e w'' h => ⟨h.1, by rw [h.2]; exact hw'⟩); go_simp; with_reducible refine hK _ ?_; clear hK K)
            (with_reducible refine quiet_at ?hw (.bool true) (fun w' hw' => ?h1) (fun K hK => ?_); (case hw => kernel_rfl); (case h1 => go_simp); go_simp; with_reducible refine hK _ ?_; clear hK K)
            (with_reducible refine quiet_at ?hw (.bool true) (fun w' hw' => ?h1) (fun K hK => ?_); (case hw => kernel_rfl); (case h1 => go_simp); go_simp; with_reducible refine hK _ ?_; clear hK K)
            (with_reducible refine quiet_at ?hw (.bool true) (fun w' hw' => ?h1) (fun K hK => ?_); (case hw => kernel_rfl); (case h1 => go_simp); go_simp; with_reducible refine hK _ ?_; clear hK K)
            (with_reducible refine quiet_at ?hw (.slice (some ⟨lb, lo, none⟩) N vc) (fun w' hw' => ?h1) (fun K hK => ?_); (case hw => kernel_rfl); (case h1 => go_simp); go_simp; with_reducible refine hK _ ?_; clear hK K)
            (with_reducible refine quiet_at ?hw (.int .i64 (k : Int)) (fun w' hw' => ?h1) (fun K hK => ?_); (case hw => kernel_rfl); (case h1 => go_simp); go_simp; with_reducible refine hK _ ?_; clear hK K)
            (with_reducible refine quiet_at ?hw (.int .i64 (i : Int)) (fun w' hw' => ?h1) (fun K hK => ?_); (case hw => kernel_rfl); (case h1 => go_simp); go_simp; with_reducible refine hK _ ?_; clear hK K)
            (with_reducible refine quiet_at ?hw (.bool false) (fun w' hw' => ?h1) (fun K hK => ?_); (case hw => kernel_rfl); (case h1 => go_simp; exact (HCB.out w' hw').mono fun e w'' h => ⟨h.1, hw'.trans h.2⟩); go_simp; with_reducible refine hK _ ?_; clear hK K)
            (with_reducible refine quiet_at ?hw (.bool false) (fun w' hw' => ?h1) (fun K hK => ?_); (case hw => kernel_rfl); (case h1 => go_simp); go_simp; with_reducible refine hK _ ?_; clear hK K)
            with_reducible refine wpQuiet_nil ?_
            intro W1 K1
            have HK1 := Lib.hid (HK.out.trans K1)
            clear K1
            go_wp2
            go_roundg (N - (k + 1))
            case measure => have := HG.out; have := HLT.out; omega
            case rel => exact ⟨k + 1, HLT.out, rfl, by go_num, HF.out, HK1.out⟩
          case true =>
            have HR := Lib.hid (show latestR L day i = false by
              have h1 : (decide (k ≠ i) && (L[k]!.time / day == L[i]!.time / day) && behindR L k i) = true := by
                rw [HNOW0.out, e, ← HB.out, decide_eq_true hki]; rfl
              unfold latestR
              rw [List.all_eq_false]
              exact ⟨k, by rw [List.mem_range, ← HN.out]; exact HLT.out, by rw [h1]; decide⟩)
            clear hxy
            go_wp2_with fail
            refine region_keep (by kernel_rfl) (by kernel_rfl) ?_
            (with_reducible refine quiet_at ?hw (.int .i64 (k : Int)) (fun w' hw' => ?h1) (fun K hK => ?_); (case hw => kernel_rfl); (case h1 => go_simp); go_simp; with_reducible refine hK _ ?_; clear hK K)
            (with_reducible refine quiet_at ?hw (.int .i64 (i : Int)) (fun w' hw' => ?h1) (fun K hK => ?_); (case hw => kernel_rfl); (case h1 => go_simp); go_simp; with_reducible refine hK _ ?_; clear hK K)
            (with_reducible refine quiet_at ?hw (.bool true) (fun w' hw' => ?h1) (fun K hK => ?_); (case hw => kernel_rfl); (case h1 => go_simp; omega); go_simp; with_reducible refine hK _ ?_; clear hK K)
            (with_reducible refine quiet_at ?hw (.bool true) (fun w' hw' => ?h1) (fun K hK => ?_); (case hw => kernel_rfl); (case h1 => go_simp); go_simp; with_reducible refine hK _ ?_; clear hK K)
            (with_reducible refine quiet_at ?hw (.slice (some ⟨lb, lo, none⟩) N vc) (fun w' hw' => ?h1) (fun K hK => ?_); (case hw => kernel_rfl); (case h1 => go_simp); go_simp; with_reducible refine hK _ ?_; clear hK K)
            (with_reducible refine quiet_at ?hw (.int .i64 (k : Int)) (fun w' hw' => ?h1) (fun K hK => ?_); (case hw => kernel_rfl); (case h1 => go_simp); go_simp; with_reducible refine hK _ ?_; clear hK K)
            (with_reducible refine quiet_at ?hw (.pointer (some ⟨lb, lo + k * 37, none⟩)) (fun w' hw' => ?h1) (fun K hK => ?_); (case hw => kernel_rfl); (case h1 => go_simp); go_simp; with_reducible refine hK _ ?_; clear hK K)
            (with_reducible refine quiet_at ?hw (.pointer (some ⟨lb, lo + k * 37, none⟩)) (fun w' hw' => ?h1) (fun K hK => ?_); (case hw => kernel_rfl); (case h1 => go_simp); go_simp; with_reducible refine hK _ ?_; clear hK K)
            (with_reducible refine quiet_at ?hw (.int .i64 ts) (fun w' hw' => ?h1) (fun K hK => ?_); (case hw => kernel_rfl); (case h1 => have cc := HCK.out w' hw'; go_simp); go_simp; with_reducible refine hK _ ?_; clear hK K)
            (with_reducible refine quiet_at ?hw (.int .i64 day) (fun w' hw' => ?h1) (fun K hK => ?_); (case hw => kernel_rfl); (case h1 => go_simp); go_simp; with_reducible refine hK _ ?_; clear hK K)
            (with_reducible refine quiet_at ?hw (.int .i64 x) (fun w' hw' => ?h1) (fun K hK => ?_); (case hw => kernel_rfl); (case h1 => go_simp; exact (HD1.out w').mono fun e w'' h => ⟨h.1, by rw [h.2]; exact hw'⟩); go_simp; with_reducible refine hK _ ?_; clear hK K)
            (with_reducible refine quiet_at ?hw (.slice (some ⟨lb, lo, none⟩) N vc) (fun w' hw' => ?h1) (fun K hK => ?_); (case hw => kernel_rfl); (case h1 => go_simp); go_simp; with_reducible refine hK _ ?_; clear hK K)
            (with_reducible refine quiet_at ?hw (.int .i64 (i : Int)) (fun w' hw' => ?h1) (fun K hK => ?_); (case hw => kernel_rfl); (case h1 => go_simp); go_simp; with_reducible refine hK _ ?_; clear hK K)
            (with_reducible refine quiet_at ?hw (.pointer (some ⟨lb, lo + i * 37, none⟩)) (fun w' hw' => ?h1) (fun K hK => ?_); (case hw => kernel_rfl); (case h1 => go_simp); go_simp; with_reducible refine hK _ ?_; clear hK K)
            (with_reducible refine quiet_at ?hw (.pointer (some ⟨lb, lo + i * 37, none⟩)) (fun w' hw' => ?h1) (fun K hK => ?_); (case hw => kernel_rfl); (case h1 => go_simp); go_simp; with_reducible refine hK _ ?_; clear hK K)
            (with_reducible refine quiet_at ?hw (.int .i64 ti) (fun w' hw' => ?h1) (fun K hK => ?_); (case hw => kernel_rfl); (case h1 => have cc := HCI'.out w' hw'; go_simp); go_simp; with_reducible refine hK _ ?_; clear hK K)
            (with_reducible refine quiet_at ?hw (.int .i64 day) (fun w' hw' => ?h1) (fun K hK => ?_); (case hw => kernel_rfl); (case h1 => go_simp); go_simp; with_reducible refine hK _ ?_; clear hK K)
            (with_reducible refine quiet_at ?hw (.int .i64 y) (fun w' hw' => ?h1) (fun K hK => ?_); (case hw => kernel_rfl); (case h1 => go_simp; exact (HD2.out w').mono fun e w'' h => ⟨h.1, by rw [h.2]; exact hw'⟩); go_simp; with_reducible refine hK _ ?_; clear hK K)
            (with_reducible refine quiet_at ?hw (.bool true) (fun w' hw' => ?h1) (fun K hK => ?_); (case hw => kernel_rfl); (case h1 => go_simp); go_simp; with_reducible refine hK _ ?_; clear hK K)
            (with_reducible refine quiet_at ?hw (.bool true) (fun w' hw' => ?h1) (fun K hK => ?_); (case hw => kernel_rfl); (case h1 => go_simp); go_simp; with_reducible refine hK _ ?_; clear hK K)
            (with_reducible refine quiet_at ?hw (.bool true) (fun w' hw' => ?h1) (fun K hK => ?_); (case hw => kernel_rfl); (case h1 => go_simp); go_simp; with_reducible refine hK _ ?_; clear hK K)
            (with_reducible refine quiet_at ?hw (.slice (some ⟨lb, lo, none⟩) N vc) (fun w' hw' => ?h1) (fun K hK => ?_); (case hw => kernel_rfl); (case h1 => go_simp); go_simp; with_reducible refine hK _ ?_; clear hK K)
            (with_reducible refine quiet_at ?hw (.int .i64 (k : Int)) (fun w' hw' => ?h1) (fun K hK => ?_); (case hw => kernel_rfl); (case h1 => go_simp); go_simp; with_reducible refine hK _ ?_; clear hK K)
            (with_reducible refine quiet_at ?hw (.int .i64 (i : Int)) (fun w' hw' => ?h1) (fun K hK => ?_); (case hw => kernel_rfl); (case h1 => go_simp); go_simp; with_reducible refine hK _ ?_; clear hK K)
            (with_reducible refine quiet_at ?hw (.bool true) (fun w' hw' => ?h1) (fun K hK => ?_); (case hw => kernel_rfl); (case h1 => go_simp; exact (HCB.out w' hw').mono fun e w'' h => ⟨h.1, hw'.trans h.2⟩); go_simp; with_reducible refine hK _ ?_; clear hK K)
            (with_reducible refine quiet_at ?hw (.bool true) (fun w' hw' => ?h1) (fun K hK => ?_); (case hw => kernel_rfl); (case h1 => go_simp); go_simp; with_reducible refine hK _ ?_; clear hK K)
            with_reducible refine wpQuiet_nil ?_
            intro W1 K1
            have HK1 := Lib.hid (HK.out.trans K1)
            clear K1
            go_wp2
            go_ret
            exact ⟨by rw [HR.out]; rfl, HK1.out⟩
        · have e : (x == y) = false := by simpa using hxy
          have HF := Lib.hid (show ∀ j, j < k + 1 → (decide (j ≠ i) && (L[j]!.time / day == L[i]!.time / day) && behindR L j i) = false from fun j hj => by
            by_cases h : j = k
            · rw [h, HNOW0.out, e, Bool.and_false]; rfl
            · exact HA.out j (by omega))
          clear hxy
          go_wp2_with fail
          refine region_keep (by kernel_rfl) (by kernel_rfl) ?_
          (with_reducible refine quiet_at ?hw (.int .i64 (k : Int)) (fun w' hw' => ?h1) (fun K hK => ?_); (case hw => kernel_rfl); (case h1 => go_simp); go_simp; with_reducible refine hK _ ?_; clear hK K)
          (with_reducible refine quiet_at ?hw (.int .i64 (i : Int)) (fun w' hw' => ?h1) (fun K hK => ?_); (case hw => kernel_rfl); (case h1 => go_simp); go_simp; with_reducible refine hK _ ?_; clear hK K)
          (with_reducible refine quiet_at ?hw (.bool true) (fun w' hw' => ?h1) (fun K hK => ?_); (case hw => kernel_rfl); (case h1 => go_simp; omega); go_simp; with_reducible refine hK _ ?_; clear hK K)
          (with_reducible refine quiet_at ?hw (.bool true) (fun w' hw' => ?h1) (fun K hK => ?_); (case hw => kernel_rfl); (case h1 => go_simp); go_simp; with_reducible refine hK _ ?_; clear hK K)
          (with_reducible refine quiet_at ?hw (.slice (some ⟨lb, lo, none⟩) N vc) (fun w' hw' => ?h1) (fun K hK => ?_); (case hw => kernel_rfl); (case h1 => go_simp); go_simp; with_reducible refine hK _ ?_; clear hK K)
          (with_reducible refine quiet_at ?hw (.int .i64 (k : Int)) (fun w' hw' => ?h1) (fun K hK => ?_); (case hw => kernel_rfl); (case h1 => go_simp); go_simp; with_reducible refine hK _ ?_; clear hK K)
          (with_reducible refine quiet_at ?hw (.pointer (some ⟨lb, lo + k * 37, none⟩)) (fun w' hw' => ?h1) (fun K hK => ?_); (case hw => kernel_rfl); (case h1 => go_simp); go_simp; with_reducible refine hK _ ?_; clear hK K)
          (with_reducible refine quiet_at ?hw (.pointer (some ⟨lb, lo + k * 37, none⟩)) (fun w' hw' => ?h1) (fun K hK => ?_); (case hw => kernel_rfl); (case h1 => go_simp); go_simp; with_reducible refine hK _ ?_; clear hK K)
          (with_reducible refine quiet_at ?hw (.int .i64 ts) (fun w' hw' => ?h1) (fun K hK => ?_); (case hw => kernel_rfl); (case h1 => have cc := HCK.out w' hw'; go_simp); go_simp; with_reducible refine hK _ ?_; clear hK K)
          (with_reducible refine quiet_at ?hw (.int .i64 day) (fun w' hw' => ?h1) (fun K hK => ?_); (case hw => kernel_rfl); (case h1 => go_simp); go_simp; with_reducible refine hK _ ?_; clear hK K)
          (with_reducible refine quiet_at ?hw (.int .i64 x) (fun w' hw' => ?h1) (fun K hK => ?_); (case hw => kernel_rfl); (case h1 => go_simp; exact (HD1.out w').mono fun e w'' h => ⟨h.1, by rw [h.2]; exact hw'⟩); go_simp; with_reducible refine hK _ ?_; clear hK K)
          (with_reducible refine quiet_at ?hw (.slice (some ⟨lb, lo, none⟩) N vc) (fun w' hw' => ?h1) (fun K hK => ?_); (case hw => kernel_rfl); (case h1 => go_simp); go_simp; with_reducible refine hK _ ?_; clear hK K)
          (with_reducible refine quiet_at ?hw (.int .i64 (i : Int)) (fun w' hw' => ?h1) (fun K hK => ?_); (case hw => kernel_rfl); (case h1 => go_simp); go_simp; with_reducible refine hK _ ?_; clear hK K)
          (with_reducible refine quiet_at ?hw (.pointer (some ⟨lb, lo + i * 37, none⟩)) (fun w' hw' => ?h1) (fun K hK => ?_); (case hw => kernel_rfl); (case h1 => go_simp); go_simp; with_reducible refine hK _ ?_; clear hK K)
          (with_reducible refine quiet_at ?hw (.pointer (some ⟨lb, lo + i * 37, none⟩)) (fun w' hw' => ?h1) (fun K hK => ?_); (case hw => kernel_rfl); (case h1 => go_simp); go_simp; with_reducible refine hK _ ?_; clear hK K)
          (with_reducible refine quiet_at ?hw (.int .i64 ti) (fun w' hw' => ?h1) (fun K hK => ?_); (case hw => kernel_rfl); (case h1 => have cc := HCI'.out w' hw'; go_simp); go_simp; with_reducible refine hK _ ?_; clear hK K)
          (with_reducible refine quiet_at ?hw (.int .i64 day) (fun w' hw' => ?h1) (fun K hK => ?_); (case hw => kernel_rfl); (case h1 => go_simp); go_simp; with_reducible refine hK _ ?_; clear hK K)
          (with_reducible refine quiet_at ?hw (.int .i64 y) (fun w' hw' => ?h1) (fun K hK => ?_); (case hw => kernel_rfl); (case h1 => go_simp; exact (HD2.out w').mono fun e w'' h => ⟨h.1, by rw [h.2]; exact hw'⟩); go_simp; with_reducible refine hK _ ?_; clear hK K)
          (with_reducible refine quiet_at ?hw (.bool false) (fun w' hw' => ?h1) (fun K hK => ?_); (case hw => kernel_rfl); (case h1 => go_simp); go_simp; with_reducible refine hK _ ?_; clear hK K)
          (with_reducible refine quiet_at ?hw (.bool false) (fun w' hw' => ?h1) (fun K hK => ?_); (case hw => kernel_rfl); (case h1 => go_simp); go_simp; with_reducible refine hK _ ?_; clear hK K)
          (with_reducible refine quiet_at ?hw (.bool false) (fun w' hw' => ?h1) (fun K hK => ?_); (case hw => kernel_rfl); (case h1 => go_simp); go_simp; with_reducible refine hK _ ?_; clear hK K)
          (with_reducible refine quiet_skip ?hw ?_; case hw => kernel_rfl)
          (with_reducible refine quiet_skip ?hw ?_; case hw => kernel_rfl)
          (with_reducible refine quiet_skip ?hw ?_; case hw => kernel_rfl)
          (with_reducible refine quiet_skip ?hw ?_; case hw => kernel_rfl)
          (with_reducible refine quiet_at ?hw (.bool false) (fun w' hw' => ?h1) (fun K hK => ?_); (case hw => kernel_rfl); (case h1 => go_simp); go_simp; with_reducible refine hK _ ?_; clear hK K)
          with_reducible refine wpQuiet_nil ?_
          intro W1 K1
          have HK1 := Lib.hid (HK.out.trans K1)
          clear K1
          go_wp2
          go_roundg (N - (k + 1))
          case measure => have := HG.out; have := HLT.out; omega
          case rel => exact ⟨k + 1, HLT.out, rfl, by go_num, HF.out, HK1.out⟩
    · have hkN : k = N := by omega
      have HR := Lib.hid (show latestR L day i = true by
        unfold latestR
        rw [List.all_eq_true]
        intro j hj
        rw [HA.out j (by rw [List.mem_range, ← HN.out] at hj; omega)]; rfl)
      subst hkN
      clear hg hk hlt HA
      go_wp2
      go_ret
      exact ⟨by rw [HR.out]; rfl, HK.out⟩
end Go.Proofs.Ytgnigkghkldcfaa
