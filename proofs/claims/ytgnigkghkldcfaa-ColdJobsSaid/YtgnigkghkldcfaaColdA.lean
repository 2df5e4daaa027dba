/-
  cold: times, what a thing is.
-/
import Derived.Test.YtgnigkghkldcfaaListsLaw
import Derived.Deep.DrawnRows

/-! cold: times, what a thing is. -/
namespace Go.Proofs.Ytgnigkghkldcfaa
open Go.RowKit Go.Proofs Go.Lib

def heldT (t : Int) : Int := min (max t 0) 1125899906842624
def afterT (t n : Int) : Int := t + min (max n 0) (1125899906842624 - t)
def stateT (life done now : Int) : Int := if done = -1 ∨ (done ≤ now ∧ afterT done life ≤ now) then 0 else if now < done then 1 else 2
def youngT (least born now : Int) : Int := max (afterT born least - now) 0

theorem heldT_in (t : Int) : 0 ≤ heldT t ∧ heldT t ≤ 1125899906842624 := by unfold heldT; omega
theorem afterT_in {t : Int} (h : -1 ≤ t ∧ t ≤ 1125899906842624) (n : Int) : t ≤ afterT t n ∧ afterT t n ≤ 1125899906842624 := by unfold afterT; omega
theorem youngT_in {t now : Int} (h : 0 ≤ t ∧ t ≤ 1125899906842624) (hn : 0 ≤ now) (n : Int) : 0 ≤ youngT n t now ∧ youngT n t now ≤ 1125899906842624 := by have := afterT_in (t := t) ⟨by omega, h.2⟩ n; unfold youngT; omega

theorem held_any (t : Int) (w : World) (_h : -9223372036854775808 ≤ t ∧ t ≤ 9223372036854775807) : Calls Try.prog 79 #[.int .i64 t] w fun e w' => e = .returned (.int .i64 (heldT t)) ∧ w = w' := by
  unfold heldT
  go_enter Try.func79, Try.ntmps79
  go_wp2
  all_goals go_ret
  all_goals exact ⟨by congr <;> omega, rfl⟩

theorem after_any (t n : Int) (w : World) (h : -1 ≤ t ∧ t ≤ 1125899906842624) (hn : -9223372036854775808 ≤ n ∧ n ≤ 9223372036854775807) : Calls Try.prog 84 #[.int .i64 t, .int .i64 n] w fun e w' => e = .returned (.int .i64 (afterT t n)) ∧ w = w' := by
  unfold afterT
  go_enter Try.func84, Try.ntmps84
  go_wp2
  all_goals go_ret
  all_goals exact ⟨by congr <;> omega, rfl⟩

/-- a cold store's own block -/
def coldCells (sb mb : Nat) (jobs life least lost : Int) : Array Value := #[.pointer (some ⟨sb, 0, none⟩), .map (some mb), .int .i64 jobs, .int .i64 life, .int .i64 least, .int .i64 lost]

structure KN (W0 W : World) : Prop where
  k : Keep (fun _ => False) W0 W
theorem KN.of {W0 W : World} {p q : Prop} (h : p ∧ q ∧ KN W0 W) : KN W0 W := h.2.2
theorem KN.drew {W0 W : World} (h : KN W0 W) : KN W0 W.drew := ⟨h.k.drew⟩

set_option linter.unusedSimpArgs false in
set_option maxHeartbeats 2000000 in
set_option maxRecDepth 100000 in
theorem state_any {w : World} {cb sb mb : Nat} {jobs life least lost : Int} (hb : w.heap[cb]? = some (.cells #[.pointer (some ⟨sb, 0, none⟩), .map (some mb), .int .i64 jobs, .int .i64 life, .int .i64 least, .int .i64 lost] 76 (0, 0))) (born done now : Int) (hd : -1 ≤ done ∧ done ≤ 1125899906842624) (hl : 1 ≤ life ∧ life ≤ 1125899906842624) :
    Calls Try.prog 83 #[.pointer (some ⟨cb, 0, none⟩), .agg #[.int .i64 born, .int .i64 done], .int .i64 now] w fun e w' => e = .returned (.int .i64 (stateT life done now)) ∧ Keep (fun _ => False) w w' := by
  have c3 : w.cell? ⟨cb, 3, none⟩ = some (.int .i64 life) := by rw [cell_blk hb]; rfl
  have hlt := lt_blk hb
  have ka : Keep (fun _ => False) w (w.alloc (.cells #[.int .i64 born, .int .i64 done] 146)) := (Keep.refl _ _).alloc _
  have h0 := alloc_new w (.cells #[.int .i64 born, .int .i64 done] 146)
  have a1 : (w.alloc (.cells #[.int .i64 born, .int .i64 done] 146)).cell? ⟨w.heap.size, 1, none⟩ = some (.int .i64 done) := by rw [cell_blk h0]; rfl
  have a3 : (w.alloc (.cells #[.int .i64 born, .int .i64 done] 146)).cell? ⟨cb, 3, none⟩ = some (.int .i64 life) := by rw [cell_blk (ka.heap hb id)]; rfl
  obtain ⟨T, hT⟩ : ∃ T, T = afterT done life := ⟨_, rfl⟩
  have HA := Lib.hid (show ∀ W, Calls Try.prog 84 #[.int .i64 done, .int .i64 life] W fun e w' => e = .returned (.int .i64 T) ∧ W = w' from fun W => hT ▸ after_any done life W hd (by omega))
  have hs : stateT life done now = if done = -1 ∨ (done ≤ now ∧ T ≤ now) then 0 else if now < done then 1 else 2 := by rw [hT]; rfl
  rw [hs]
  have hKN : KN w (w.alloc (.cells #[.int .i64 born, .int .i64 done] 146)) := ⟨ka⟩
  clear hb h0 ka hT hs
  have hc : done = -1 ∨ (done ≠ -1 ∧ done ≤ now ∧ T ≤ now) ∨ (done ≠ -1 ∧ done ≤ now ∧ now < T) ∨ (done ≠ -1 ∧ now < done) := by omega
  obtain ⟨hd1, hd2⟩ := hd
  clear hl
  rcases hc with rfl | ⟨h1, h2, h3⟩ | ⟨h1, h2, h3⟩ | ⟨h1, h2⟩
  · rw [if_pos (.inl rfl)]
    go_enter Try.func83, Try.ntmps83
    go_wp2_with fail
    refine wp_region_held_drew (S := (fun w' => w'.cell? ⟨w.heap.size, 1, none⟩ = some (.int .i64 (-1)) ∧ w'.cell? ⟨cb, 3, none⟩ = some (.int .i64 life))) (by kernel_rfl) ⟨a1, a3⟩ (fun hHeld => ?_)
    have HS := Lib.hid hHeld
    clear hHeld
    refine wpAnyH_take (i := 0) (oi := _) (v := .pointer (some ⟨w.heap.size, 1, none⟩)) rfl (by kernel_rfl) (by kernel_rfl) (by kernel_rfl) (fun _ _ _ h => h) (Or.inl ⟨by rfl, by (intro w hSw; (try dsimp only at hSw); obtain ⟨hs1, hs2⟩ := hSw; go_simp)⟩) HS.out ?_
    simp only [List.getElem_toArray, List.getElem_cons_zero, List.getElem_cons_succ, Act.put, List.setIfInBounds_toArray, List.set_cons_zero, List.set_cons_succ]
    refine wpAnyH_take (i := 1) (oi := _) (v := .int .i64 (-1)) rfl (by kernel_rfl) (by kernel_rfl) (by kernel_rfl) (fun _ _ _ h => h) (Or.inl ⟨by rfl, by (intro w hSw; (try dsimp only at hSw); obtain ⟨hs1, hs2⟩ := hSw; go_simp)⟩) HS.out ?_
    simp only [List.getElem_toArray, List.getElem_cons_zero, List.getElem_cons_succ, Act.put, List.setIfInBounds_toArray, List.set_cons_zero, List.set_cons_succ]
    refine wpAnyH_take (i := 2) (oi := _) (v := .bool true) rfl (by kernel_rfl) (by kernel_rfl) (by kernel_rfl) (fun _ _ _ h => h) (Or.inl ⟨by rfl, by (intro w hSw; (try dsimp only at hSw); obtain ⟨hs1, hs2⟩ := hSw; go_simp)⟩) HS.out ?_
    simp only [List.getElem_toArray, List.getElem_cons_zero, List.getElem_cons_succ, Act.put, List.setIfInBounds_toArray, List.set_cons_zero, List.set_cons_succ]
    refine wpAnyH_take (i := 3) (oi := _) (v := .bool true) rfl (by kernel_rfl) (by kernel_rfl) (by kernel_rfl) (fun _ _ _ h => h) (Or.inl ⟨by rfl, by (intro w hSw; (try dsimp only at hSw); obtain ⟨hs1, hs2⟩ := hSw; go_simp)⟩) HS.out ?_
    simp only [List.getElem_toArray, List.getElem_cons_zero, List.getElem_cons_succ, Act.put, List.setIfInBounds_toArray, List.set_cons_zero, List.set_cons_succ]
    refine wpAnyH_take (i := 4) (oi := _) (v := undef) rfl (by kernel_rfl) (by kernel_rfl) (by kernel_rfl) (fun _ _ _ h => h) (Or.inr ⟨rfl, rfl⟩) HS.out ?_
    simp only [List.getElem_toArray, List.getElem_cons_zero, List.getElem_cons_succ, Act.put, List.setIfInBounds_toArray, List.set_cons_zero, List.set_cons_succ]
    refine wpAnyH_take (i := 5) (oi := _) (v := undef) rfl (by kernel_rfl) (by kernel_rfl) (by kernel_rfl) (fun _ _ _ h => h) (Or.inr ⟨rfl, rfl⟩) HS.out ?_
    simp only [List.getElem_toArray, List.getElem_cons_zero, List.getElem_cons_succ, Act.put, List.setIfInBounds_toArray, List.set_cons_zero, List.set_cons_succ]
    refine wpAnyH_take (i := 6) (oi := _) (v := undef) rfl (by kernel_rfl) (by kernel_rfl) (by kernel_rfl) (fun _ _ _ h => h) (Or.inr ⟨rfl, rfl⟩) HS.out ?_
    simp only [List.getElem_toArray, List.getElem_cons_zero, List.getElem_cons_succ, Act.put, List.setIfInBounds_toArray, List.set_cons_zero, List.set_cons_succ]
    refine wpAnyH_take (i := 7) (oi := _) (v := undef) rfl (by kernel_rfl) (by kernel_rfl) (by kernel_rfl) (fun _ _ _ h => h) (Or.inr ⟨rfl, rfl⟩) HS.out ?_
    simp only [List.getElem_toArray, List.getElem_cons_zero, List.getElem_cons_succ, Act.put, List.setIfInBounds_toArray, List.set_cons_zero, List.set_cons_succ]
    refine wpAnyH_take (i := 8) (oi := _) (v := undef) rfl (by kernel_rfl) (by kernel_rfl) (by kernel_rfl) (fun _ _ _ h => h) (Or.inr ⟨rfl, rfl⟩) HS.out ?_
    simp only [List.getElem_toArray, List.getElem_cons_zero, List.getElem_cons_succ, Act.put, List.setIfInBounds_toArray, List.set_cons_zero, List.set_cons_succ]
    refine wpAnyH_take (i := 9) (oi := _) (v := undef) rfl (by kernel_rfl) (by kernel_rfl) (by kernel_rfl) (fun _ _ _ h => h) (Or.inr ⟨rfl, rfl⟩) HS.out ?_
    simp only [List.getElem_toArray, List.getElem_cons_zero, List.getElem_cons_succ, Act.put, List.setIfInBounds_toArray, List.set_cons_zero, List.set_cons_succ]
    refine wpAnyH_take (i := 10) (oi := _) (v := undef) rfl (by kernel_rfl) (by kernel_rfl) (by kernel_rfl) (fun _ _ _ h => h) (Or.inr ⟨rfl, rfl⟩) HS.out ?_
    simp only [List.getElem_toArray, List.getElem_cons_zero, List.getElem_cons_succ, Act.put, List.setIfInBounds_toArray, List.set_cons_zero, List.set_cons_succ]
    refine wpAnyH_take (i := 11) (oi := _) (v := undef) rfl (by kernel_rfl) (by kernel_rfl) (by kernel_rfl) (fun _ _ _ h => h) (Or.inr ⟨rfl, rfl⟩) HS.out ?_
    simp only [List.getElem_toArray, List.getElem_cons_zero, List.getElem_cons_succ, Act.put, List.setIfInBounds_toArray, List.set_cons_zero, List.set_cons_succ]
    refine wpAnyH_take (i := 12) (oi := _) (v := undef) rfl (by kernel_rfl) (by kernel_rfl) (by kernel_rfl) (fun _ _ _ h => h) (Or.inr ⟨rfl, rfl⟩) HS.out ?_
    simp only [List.getElem_toArray, List.getElem_cons_zero, List.getElem_cons_succ, Act.put, List.setIfInBounds_toArray, List.set_cons_zero, List.set_cons_succ]
    refine wpAnyH_take (i := 13) (oi := _) (v := undef) rfl (by kernel_rfl) (by kernel_rfl) (by kernel_rfl) (fun _ _ _ h => h) (Or.inr ⟨rfl, rfl⟩) HS.out ?_
    simp only [List.getElem_toArray, List.getElem_cons_zero, List.getElem_cons_succ, Act.put, List.setIfInBounds_toArray, List.set_cons_zero, List.set_cons_succ]
    refine wpAnyH_take (i := 14) (oi := _) (v := undef) rfl (by kernel_rfl) (by kernel_rfl) (by kernel_rfl) (fun _ _ _ h => h) (Or.inr ⟨rfl, rfl⟩) HS.out ?_
    simp only [List.getElem_toArray, List.getElem_cons_zero, List.getElem_cons_succ, Act.put, List.setIfInBounds_toArray, List.set_cons_zero, List.set_cons_succ]
    refine wpAnyH_take (i := 15) (oi := _) (v := undef) rfl (by kernel_rfl) (by kernel_rfl) (by kernel_rfl) (fun _ _ _ h => h) (Or.inr ⟨rfl, rfl⟩) HS.out ?_
    simp only [List.getElem_toArray, List.getElem_cons_zero, List.getElem_cons_succ, Act.put, List.setIfInBounds_toArray, List.set_cons_zero, List.set_cons_succ]
    refine wpAnyH_take (i := 16) (oi := _) (v := undef) rfl (by kernel_rfl) (by kernel_rfl) (by kernel_rfl) (fun _ _ _ h => h) (Or.inr ⟨rfl, rfl⟩) HS.out ?_
    simp only [List.getElem_toArray, List.getElem_cons_zero, List.getElem_cons_succ, Act.put, List.setIfInBounds_toArray, List.set_cons_zero, List.set_cons_succ]
    refine wpAnyH_take (i := 17) (oi := _) (v := undef) rfl (by kernel_rfl) (by kernel_rfl) (by kernel_rfl) (fun _ _ _ h => h) (Or.inr ⟨rfl, rfl⟩) HS.out ?_
    simp only [List.getElem_toArray, List.getElem_cons_zero, List.getElem_cons_succ, Act.put, List.setIfInBounds_toArray, List.set_cons_zero, List.set_cons_succ]
    refine wpAnyH_take (i := 18) (oi := _) (v := undef) rfl (by kernel_rfl) (by kernel_rfl) (by kernel_rfl) (fun _ _ _ h => h) (Or.inr ⟨rfl, rfl⟩) HS.out ?_
    simp only [List.getElem_toArray, List.getElem_cons_zero, List.getElem_cons_succ, Act.put, List.setIfInBounds_toArray, List.set_cons_zero, List.set_cons_succ]
    refine wpAnyH_take (i := 19) (oi := _) (v := .bool true) rfl (by kernel_rfl) (by kernel_rfl) (by kernel_rfl) (fun _ _ _ h => h) (Or.inl ⟨by rfl, by (intro w hSw; (try dsimp only at hSw); obtain ⟨hs1, hs2⟩ := hSw; go_simp)⟩) HS.out ?_
    simp only [List.getElem_toArray, List.getElem_cons_zero, List.getElem_cons_succ, Act.put, List.setIfInBounds_toArray, List.set_cons_zero, List.set_cons_succ]
    refine wpAnyH_take (i := 20) (oi := _) (v := .bool true) rfl (by kernel_rfl) (by kernel_rfl) (by kernel_rfl) (fun _ _ _ h => h) (Or.inl ⟨by rfl, by (intro w hSw; (try dsimp only at hSw); obtain ⟨hs1, hs2⟩ := hSw; go_simp)⟩) HS.out ?_
    simp only [List.getElem_toArray, List.getElem_cons_zero, List.getElem_cons_succ, Act.put, List.setIfInBounds_toArray, List.set_cons_zero, List.set_cons_succ]
    refine wpAnyH_done (by kernel_rfl) ?_ _
    go_wp2
    go_ret
    exact ⟨rfl, hKN.drew.k⟩
  · have hb1 : (done == -1) = false := by simpa using h1
    have hb2 : decide (done ≤ now) = true := by simpa using h2
    have hb3 : decide (T ≤ now) = true := by simpa using h3
    rw [if_pos (.inr ⟨h2, h3⟩)]
    go_enter Try.func83, Try.ntmps83
    go_wp2_with fail
    go_region_held3 (fun w' => w'.cell? ⟨w.heap.size, 1, none⟩ = some (.int .i64 done) ∧ w'.cell? ⟨cb, 3, none⟩ = some (.int .i64 life) ∧ KN w w')
      (first | exact ⟨by assumption, by assumption, by assumption⟩ | exact ⟨by assumption, by assumption, KN.drew (by assumption)⟩ | go_keep)
      (first | (go_at_call 84; refine (HA.out _).mono ?_; rintro e w' ⟨rfl, rfl⟩))
    go_wp2
    go_ret
    exact ⟨rfl, KN.k (KN.of (by assumption))⟩
  · have hb1 : (done == -1) = false := by simpa using h1
    have hb2 : decide (done ≤ now) = true := by simpa using h2
    have hb3 : decide (T ≤ now) = false := by simpa using h3
    rw [if_neg (by omega), if_neg (by omega)]
    go_enter Try.func83, Try.ntmps83
    go_wp2_with fail
    go_region_held3 (fun w' => w'.cell? ⟨w.heap.size, 1, none⟩ = some (.int .i64 done) ∧ w'.cell? ⟨cb, 3, none⟩ = some (.int .i64 life) ∧ KN w w')
      (first | exact ⟨by assumption, by assumption, by assumption⟩ | exact ⟨by assumption, by assumption, KN.drew (by assumption)⟩ | go_keep)
      (first | (go_at_call 84; refine (HA.out _).mono ?_; rintro e w' ⟨rfl, rfl⟩))
    go_wp2
    go_ret
    exact ⟨rfl, KN.k (KN.of (by assumption))⟩
  · have hb1 : (done == -1) = false := by simpa using h1
    have hb2 : decide (done ≤ now) = false := by simpa using h2
    rw [if_neg (by omega), if_pos h2]
    go_enter Try.func83, Try.ntmps83
    go_wp2_with fail
    refine wp_region_held_drew (S := (fun w' => w'.cell? ⟨w.heap.size, 1, none⟩ = some (.int .i64 done) ∧ w'.cell? ⟨cb, 3, none⟩ = some (.int .i64 life))) (by kernel_rfl) ⟨a1, a3⟩ (fun hHeld => ?_)
    have HS := Lib.hid hHeld
    clear hHeld
    refine wpAnyH_take (i := 0) (oi := _) (v := .pointer (some ⟨w.heap.size, 1, none⟩)) rfl (by kernel_rfl) (by kernel_rfl) (by kernel_rfl) (fun _ _ _ h => h) (Or.inl ⟨by rfl, by (intro w hSw; (try dsimp only at hSw); obtain ⟨hs1, hs2⟩ := hSw; go_simp)⟩) HS.out ?_
    simp only [List.getElem_toArray, List.getElem_cons_zero, List.getElem_cons_succ, Act.put, List.setIfInBounds_toArray, List.set_cons_zero, List.set_cons_succ]
    refine wpAnyH_take (i := 1) (oi := _) (v := .int .i64 done) rfl (by kernel_rfl) (by kernel_rfl) (by kernel_rfl) (fun _ _ _ h => h) (Or.inl ⟨by rfl, by (intro w hSw; (try dsimp only at hSw); obtain ⟨hs1, hs2⟩ := hSw; go_simp)⟩) HS.out ?_
    simp only [List.getElem_toArray, List.getElem_cons_zero, List.getElem_cons_succ, Act.put, List.setIfInBounds_toArray, List.set_cons_zero, List.set_cons_succ]
    refine wpAnyH_take (i := 2) (oi := _) (v := .bool false) rfl (by kernel_rfl) (by kernel_rfl) (by kernel_rfl) (fun _ _ _ h => h) (Or.inl ⟨by rfl, by (intro w hSw; (try dsimp only at hSw); obtain ⟨hs1, hs2⟩ := hSw; go_simp)⟩) HS.out ?_
    simp only [List.getElem_toArray, List.getElem_cons_zero, List.getElem_cons_succ, Act.put, List.setIfInBounds_toArray, List.set_cons_zero, List.set_cons_succ]
    refine wpAnyH_take (i := 3) (oi := _) (v := .bool false) rfl (by kernel_rfl) (by kernel_rfl) (by kernel_rfl) (fun _ _ _ h => h) (Or.inl ⟨by rfl, by (intro w hSw; (try dsimp only at hSw); obtain ⟨hs1, hs2⟩ := hSw; go_simp)⟩) HS.out ?_
    simp only [List.getElem_toArray, List.getElem_cons_zero, List.getElem_cons_succ, Act.put, List.setIfInBounds_toArray, List.set_cons_zero, List.set_cons_succ]
    refine wpAnyH_take (i := 4) (oi := _) (v := .pointer (some ⟨w.heap.size, 1, none⟩)) rfl (by kernel_rfl) (by kernel_rfl) (by kernel_rfl) (fun _ _ _ h => h) (Or.inl ⟨by rfl, by (intro w hSw; (try dsimp only at hSw); obtain ⟨hs1, hs2⟩ := hSw; go_simp)⟩) HS.out ?_
    simp only [List.getElem_toArray, List.getElem_cons_zero, List.getElem_cons_succ, Act.put, List.setIfInBounds_toArray, List.set_cons_zero, List.set_cons_succ]
    refine wpAnyH_take (i := 5) (oi := _) (v := .int .i64 done) rfl (by kernel_rfl) (by kernel_rfl) (by kernel_rfl) (fun _ _ _ h => h) (Or.inl ⟨by rfl, by (intro w hSw; (try dsimp only at hSw); obtain ⟨hs1, hs2⟩ := hSw; go_simp)⟩) HS.out ?_
    simp only [List.getElem_toArray, List.getElem_cons_zero, List.getElem_cons_succ, Act.put, List.setIfInBounds_toArray, List.set_cons_zero, List.set_cons_succ]
    refine wpAnyH_take (i := 6) (oi := _) (v := .int .i64 now) rfl (by kernel_rfl) (by kernel_rfl) (by kernel_rfl) (fun _ _ _ h => h) (Or.inl ⟨by rfl, by (intro w hSw; (try dsimp only at hSw); obtain ⟨hs1, hs2⟩ := hSw; go_simp)⟩) HS.out ?_
    simp only [List.getElem_toArray, List.getElem_cons_zero, List.getElem_cons_succ, Act.put, List.setIfInBounds_toArray, List.set_cons_zero, List.set_cons_succ]
    refine wpAnyH_take (i := 7) (oi := _) (v := .bool false) rfl (by kernel_rfl) (by kernel_rfl) (by kernel_rfl) (fun _ _ _ h => h) (Or.inl ⟨by rfl, by (intro w hSw; (try dsimp only at hSw); obtain ⟨hs1, hs2⟩ := hSw; go_simp)⟩) HS.out ?_
    simp only [List.getElem_toArray, List.getElem_cons_zero, List.getElem_cons_succ, Act.put, List.setIfInBounds_toArray, List.set_cons_zero, List.set_cons_succ]
    refine wpAnyH_take (i := 8) (oi := _) (v := .bool false) rfl (by kernel_rfl) (by kernel_rfl) (by kernel_rfl) (fun _ _ _ h => h) (Or.inl ⟨by rfl, by (intro w hSw; (try dsimp only at hSw); obtain ⟨hs1, hs2⟩ := hSw; go_simp)⟩) HS.out ?_
    simp only [List.getElem_toArray, List.getElem_cons_zero, List.getElem_cons_succ, Act.put, List.setIfInBounds_toArray, List.set_cons_zero, List.set_cons_succ]
    refine wpAnyH_take (i := 9) (oi := _) (v := undef) rfl (by kernel_rfl) (by kernel_rfl) (by kernel_rfl) (fun _ _ _ h => h) (Or.inr ⟨rfl, rfl⟩) HS.out ?_
    simp only [List.getElem_toArray, List.getElem_cons_zero, List.getElem_cons_succ, Act.put, List.setIfInBounds_toArray, List.set_cons_zero, List.set_cons_succ]
    refine wpAnyH_take (i := 10) (oi := _) (v := undef) rfl (by kernel_rfl) (by kernel_rfl) (by kernel_rfl) (fun _ _ _ h => h) (Or.inr ⟨rfl, rfl⟩) HS.out ?_
    simp only [List.getElem_toArray, List.getElem_cons_zero, List.getElem_cons_succ, Act.put, List.setIfInBounds_toArray, List.set_cons_zero, List.set_cons_succ]
    refine wpAnyH_take (i := 11) (oi := _) (v := undef) rfl (by kernel_rfl) (by kernel_rfl) (by kernel_rfl) (fun _ _ _ h => h) (Or.inr ⟨rfl, rfl⟩) HS.out ?_
    simp only [List.getElem_toArray, List.getElem_cons_zero, List.getElem_cons_succ, Act.put, List.setIfInBounds_toArray, List.set_cons_zero, List.set_cons_succ]
    refine wpAnyH_take (i := 12) (oi := _) (v := undef) rfl (by kernel_rfl) (by kernel_rfl) (by kernel_rfl) (fun _ _ _ h => h) (Or.inr ⟨rfl, rfl⟩) HS.out ?_
    simp only [List.getElem_toArray, List.getElem_cons_zero, List.getElem_cons_succ, Act.put, List.setIfInBounds_toArray, List.set_cons_zero, List.set_cons_succ]
    refine wpAnyH_take (i := 13) (oi := _) (v := undef) rfl (by kernel_rfl) (by kernel_rfl) (by kernel_rfl) (fun _ _ _ h => h) (Or.inr ⟨rfl, rfl⟩) HS.out ?_
    simp only [List.getElem_toArray, List.getElem_cons_zero, List.getElem_cons_succ, Act.put, List.setIfInBounds_toArray, List.set_cons_zero, List.set_cons_succ]
    refine wpAnyH_take (i := 14) (oi := _) (v := undef) rfl (by kernel_rfl) (by kernel_rfl) (by kernel_rfl) (fun _ _ _ h => h) (Or.inr ⟨rfl, rfl⟩) HS.out ?_
    simp only [List.getElem_toArray, List.getElem_cons_zero, List.getElem_cons_succ, Act.put, List.setIfInBounds_toArray, List.set_cons_zero, List.set_cons_succ]
    refine wpAnyH_take (i := 15) (oi := _) (v := undef) rfl (by kernel_rfl) (by kernel_rfl) (by kernel_rfl) (fun _ _ _ h => h) (Or.inr ⟨rfl, rfl⟩) HS.out ?_
    simp only [List.getElem_toArray, List.getElem_cons_zero, List.getElem_cons_succ, Act.put, List.setIfInBounds_toArray, List.set_cons_zero, List.set_cons_succ]
    refine wpAnyH_take (i := 16) (oi := _) (v := undef) rfl (by kernel_rfl) (by kernel_rfl) (by kernel_rfl) (fun _ _ _ h => h) (Or.inr ⟨rfl, rfl⟩) HS.out ?_
    simp only [List.getElem_toArray, List.getElem_cons_zero, List.getElem_cons_succ, Act.put, List.setIfInBounds_toArray, List.set_cons_zero, List.set_cons_succ]
    refine wpAnyH_take (i := 17) (oi := _) (v := undef) rfl (by kernel_rfl) (by kernel_rfl) (by kernel_rfl) (fun _ _ _ h => h) (Or.inr ⟨rfl, rfl⟩) HS.out ?_
    simp only [List.getElem_toArray, List.getElem_cons_zero, List.getElem_cons_succ, Act.put, List.setIfInBounds_toArray, List.set_cons_zero, List.set_cons_succ]
    refine wpAnyH_take (i := 18) (oi := _) (v := .bool false) rfl (by kernel_rfl) (by kernel_rfl) (by kernel_rfl) (fun _ _ _ h => h) (Or.inl ⟨by rfl, by (intro w hSw; (try dsimp only at hSw); obtain ⟨hs1, hs2⟩ := hSw; go_simp)⟩) HS.out ?_
    simp only [List.getElem_toArray, List.getElem_cons_zero, List.getElem_cons_succ, Act.put, List.setIfInBounds_toArray, List.set_cons_zero, List.set_cons_succ]
    refine wpAnyH_take (i := 19) (oi := _) (v := .bool false) rfl (by kernel_rfl) (by kernel_rfl) (by kernel_rfl) (fun _ _ _ h => h) (Or.inl ⟨by rfl, by (intro w hSw; (try dsimp only at hSw); obtain ⟨hs1, hs2⟩ := hSw; go_simp)⟩) HS.out ?_
    simp only [List.getElem_toArray, List.getElem_cons_zero, List.getElem_cons_succ, Act.put, List.setIfInBounds_toArray, List.set_cons_zero, List.set_cons_succ]
    refine wpAnyH_take (i := 20) (oi := _) (v := .bool false) rfl (by kernel_rfl) (by kernel_rfl) (by kernel_rfl) (fun _ _ _ h => h) (Or.inl ⟨by rfl, by (intro w hSw; (try dsimp only at hSw); obtain ⟨hs1, hs2⟩ := hSw; go_simp)⟩) HS.out ?_
    simp only [List.getElem_toArray, List.getElem_cons_zero, List.getElem_cons_succ, Act.put, List.setIfInBounds_toArray, List.set_cons_zero, List.set_cons_succ]
    refine wpAnyH_done (by kernel_rfl) ?_ _
    go_wp2
    go_ret
    exact ⟨rfl, hKN.drew.k⟩
end Go.Proofs.Ytgnigkghkldcfaa

/-! cold: how long a thing is young yet; a cold store. -/
namespace Go.Proofs.Ytgnigkghkldcfaa
open Go.RowKit Go.Proofs Go.Lib

set_option maxRecDepth 100000 in
theorem young_any {w : World} {cb sb mb : Nat} {jobs life least lost : Int} (hb : w.heap[cb]? = some (.cells #[.pointer (some ⟨sb, 0, none⟩), .map (some mb), .int .i64 jobs, .int .i64 life, .int .i64 least, .int .i64 lost] 76 (0, 0))) (born done now : Int) (hd : 0 ≤ born ∧ born ≤ 1125899906842624) (hl : 0 ≤ least ∧ least ≤ 1125899906842624) (hn : 0 ≤ now ∧ now ≤ 1125899906842624) :
    Calls Try.prog 81 #[.pointer (some ⟨cb, 0, none⟩), .agg #[.int .i64 born, .int .i64 done], .int .i64 now] w fun e w' => e = .returned (.int .i64 (youngT least born now)) ∧ Keep (fun _ => False) w w' := by
  have c4 : w.cell? ⟨cb, 4, none⟩ = some (.int .i64 least) := by rw [cell_blk hb]; rfl
  have hlt := lt_blk hb
  have ka : Keep (fun _ => False) w (w.alloc (.cells #[.int .i64 born, .int .i64 done] 146)) := (Keep.refl _ _).alloc _
  have h0 := alloc_new w (.cells #[.int .i64 born, .int .i64 done] 146)
  have a1 : (w.alloc (.cells #[.int .i64 born, .int .i64 done] 146)).cell? ⟨w.heap.size, 0, none⟩ = some (.int .i64 born) := by rw [cell_blk h0]; rfl
  have a3 : (w.alloc (.cells #[.int .i64 born, .int .i64 done] 146)).cell? ⟨cb, 4, none⟩ = some (.int .i64 least) := by rw [cell_blk (ka.heap hb id)]; rfl
  obtain ⟨T, hT⟩ : ∃ T, T = afterT born least := ⟨_, rfl⟩
  have HA := Lib.hid (show ∀ W, Calls Try.prog 84 #[.int .i64 born, .int .i64 least] W fun e w' => e = .returned (.int .i64 T) ∧ W = w' from fun W => hT ▸ after_any born least W ⟨by omega, hd.2⟩ (by omega))
  have hs : youngT least born now = max (T - now) 0 := by rw [hT]; rfl
  have hTi : 0 ≤ T ∧ T ≤ 1125899906842624 := by rw [hT]; have := afterT_in (t := born) ⟨by omega, hd.2⟩ least; omega
  rw [hs]
  have hKN : KN w (w.alloc (.cells #[.int .i64 born, .int .i64 done] 146)) := ⟨ka⟩
  clear hb h0 ka hT hs
  obtain ⟨hd1, hd2⟩ := hd; obtain ⟨hl1, hl2⟩ := hl; obtain ⟨hn1, hn2⟩ := hn; obtain ⟨hT1, hT2⟩ := hTi
  go_enter Try.func81, Try.ntmps81
  go_wp2_with fail
  go_region_held3 (fun w' => w'.cell? ⟨w.heap.size, 0, none⟩ = some (.int .i64 born) ∧ w'.cell? ⟨cb, 4, none⟩ = some (.int .i64 least) ∧ KN w w')
    (first | exact ⟨by assumption, by assumption, by assumption⟩ | exact ⟨by assumption, by assumption, KN.drew (by assumption)⟩ | go_keep)
    (first | (go_at_call 84; refine (HA.out _).mono ?_; rintro e w' ⟨rfl, rfl⟩))
  all_goals go_wp2
  all_goals go_ret
  refine ⟨?_, KN.k (KN.of (by assumption))⟩
  simp
  have hwr : IntKind.i64.wrap (T - now) = T - now := by rw [IntKind.wrap_i64]; omega
  rw [hwr]

/-- What a cold store is. -/
structure CS where
  o : OS
  notes : List (Bs × (Int × Int))
  jobs : Int
  life : Int
  least : Int
  lost : Int

def noteV (n : Int × Int) : Value := .agg #[.int .i64 n.1, .int .i64 n.2]

structure CS.Ok (c : CS) : Prop where
  rising : Rising c.notes
  times : ∀ e ∈ c.notes, (0 ≤ e.2.1 ∧ e.2.1 ≤ 1125899906842624) ∧ (-1 ≤ e.2.2 ∧ e.2.2 ≤ 1125899906842624)
  jobs : 1 ≤ c.jobs ∧ c.jobs ≤ 64
  life : 1 ≤ c.life ∧ c.life ≤ 1125899906842624
  least : 0 ≤ c.least ∧ c.least ≤ 1125899906842624
  lost : 0 ≤ c.lost ∧ c.lost ≤ 4611686018427387904
  many : c.notes.length ≤ 4097

/-- Where it lies. -/
structure ColdAt (w : World) (cb sb mb : Nat) (f : Value) (S : Nat → Prop) (c : CS) : Prop where
  blk : w.heap[cb]? = some (.cells #[.pointer (some ⟨sb, 0, none⟩), .map (some mb), .int .i64 c.jobs, .int .i64 c.life, .int .i64 c.least, .int .i64 c.lost] 76 (0, 0))
  st : St w sb f S c.o
  map : MapP Try.prog 9 w mb (mapV noteV c.notes)
  ncb : ¬ S cb
  nmb : ¬ S mb
  ok : c.Ok

section
variable {w w' : World} {cb sb mb : Nat} {f : Value} {S S' : Nat → Prop} {c : CS}
theorem ColdAt.ne (h : ColdAt w cb sb mb f S c) : mb ≠ cb := MapP.ne h.map h.blk
theorem ColdAt.keep (h : ColdAt w cb sb mb f S c) {F : Nat → Prop} (hk : Keep F w w') (hF : ∀ x, F x → ¬ S x ∧ x ≠ cb ∧ x ≠ mb) : ColdAt w' cb sb mb f S c :=
  ⟨hk.heap h.blk (fun e => (hF _ e).2.1 rfl), h.st.keep hk (fun x e => (hF x e).1), h.map.keep hk (fun e => (hF _ e).2.2 rfl), h.ncb, h.nmb, h.ok⟩
theorem ColdAt.keep0 (h : ColdAt w cb sb mb f S c) (hk : Keep (fun _ => False) w w') : ColdAt w' cb sb mb f S c := h.keep hk (fun _ e => e.elim)
theorem ColdAt.lt (h : ColdAt w cb sb mb f S c) : cb < w.heap.size ∧ mb < w.heap.size := ⟨lt_blk h.blk, h.map.lt⟩
/-- the notes turned, and what was lost -/
theorem ColdAt.note (h : ColdAt w cb sb mb f S c) {c' : CS} (hm : MapP Try.prog 9 w' mb (mapV noteV c'.notes)) (hk : Keep (· = mb) w w') (ho : c'.o = c.o) (hj : c'.jobs = c.jobs ∧ c'.life = c.life ∧ c'.least = c.least ∧ c'.lost = c.lost) (hok : c'.Ok) : ColdAt w' cb sb mb f S c' :=
  ⟨by rw [hj.1, hj.2.1, hj.2.2.1, hj.2.2.2]; exact hk.heap h.blk (fun e => h.ne e.symm), by rw [ho]; exact h.st.keep hk (fun x e => by rw [e]; exact h.nmb), hm, h.ncb, h.nmb, hok⟩
end
theorem zero_note (w : World) : (zeroValue 146).run Try.prog w = .ok (.agg #[.int .i64 0, .int .i64 0]) w := by kernel_rfl

def CS.gone (c : CS) (nm : Bs) (now : Int) : CS :=
  match lk c.notes nm with
  | none => c
  | some n => { c with notes := delK nm c.notes, lost := c.lost + youngT c.least n.1 now }
end Go.Proofs.Ytgnigkghkldcfaa

/-! cold: gone. -/
namespace Go.Proofs.Ytgnigkghkldcfaa
open Go.RowKit Go.Proofs Go.Lib

set_option maxRecDepth 100000 in
theorem gone_none {w : World} {cb sb mb : Nat} {f : Value} {S : Nat → Prop} {c : CS} (h : ColdAt w cb sb mb f S c) (nm : ByteArray) (hnm : nm.size ≤ maxLen) (now : Int) (hl : lk c.notes nm.data.toList = none) :
    Calls Try.prog 80 #[.pointer (some ⟨cb, 0, none⟩), .string nm, .int .i64 now] w fun e w' => e = .returned (.tuple #[]) ∧ Keep (fun _ => False) w w' := by
  have c1 : w.cell? ⟨cb, 1, none⟩ = some (.map (some mb)) := by rw [cell_blk h.blk]; rfl
  have hlk := MapP.look_ok Try.underlying9 Try.underlying74 h.map nm hnm (zero_note w)
  rw [lk_mapV, hl] at hlk
  simp only [Option.map_none, Option.getD_none, Option.isSome_none] at hlk
  clear h hl
  go_enter Try.func80, Try.ntmps80
  go_wp2
  go_end0
  exact ⟨rfl, (Keep.refl _ _).alloc _⟩

theorem gone_fin {w' W3 W4 : World} {cb sb mb : Nat} {f : Value} {S : Nat → Prop} {c : CS} {nm : ByteArray} {lost Y : Int} (j : ColdAt w' cb sb mb f S c) (k3 : Keep (· = cb) w' W3) (b3 : W3.heap[cb]? = some (.cells #[.pointer (some ⟨sb, 0, none⟩), .map (some mb), .int .i64 c.jobs, .int .i64 c.life, .int .i64 c.least, .int .i64 (lost + Y)] 76 (0, 0)))
    (hlo : lost = c.lost) (hl0 : 0 ≤ lost) (hlost : lost ≤ 4000000000000000000) (hYi : 0 ≤ Y ∧ Y ≤ 1125899906842624) (hm4 : MapP Try.prog 9 W4 mb (mapV noteV (delK nm.data.toList c.notes))) (hk4 : Keep (· = mb) W3 W4) : ColdAt W4 cb sb mb f S { c with notes := delK nm.data.toList c.notes, lost := c.lost + Y } := by
  rw [hlo] at b3 hl0 hlost
  refine ⟨hk4.heap b3 (fun e => j.ne e.symm), (j.st.keep k3 (fun x e => by rw [e]; exact j.ncb)).keep hk4 (fun x e => by rw [e]; exact j.nmb), hm4, j.ncb, j.nmb, ⟨rising_delK j.ok.rising, fun e he => j.ok.times e (mem_delK.1 he).1, j.ok.jobs, j.ok.life, j.ok.least, ?_, ?_⟩⟩
  · show 0 ≤ c.lost + Y ∧ c.lost + Y ≤ _; omega
  · exact Nat.le_trans (delK_le _ _) j.ok.many

set_option maxRecDepth 100000 in
theorem gone_some {w : World} {cb sb mb : Nat} {f : Value} {S : Nat → Prop} {c : CS} (h : ColdAt w cb sb mb f S c) (nm : ByteArray) (hnm : nm.size ≤ maxLen) (now : Int) (hn : 0 ≤ now ∧ now ≤ 1125899906842624) (n : Int × Int) (hl : lk c.notes nm.data.toList = some n) (hlost : c.lost ≤ 4000000000000000000) :
    Calls Try.prog 80 #[.pointer (some ⟨cb, 0, none⟩), .string nm, .int .i64 now] w fun e w' => e = .returned (.tuple #[]) ∧ ColdAt w' cb sb mb f S (c.gone nm.data.toList now) ∧ Keep (fun x => x = cb ∨ x = mb) w w' := by
  have c1 : w.cell? ⟨cb, 1, none⟩ = some (.map (some mb)) := by rw [cell_blk h.blk]; rfl
  have hlk := MapP.look_ok Try.underlying9 Try.underlying74 h.map nm hnm (zero_note w)
  rw [lk_mapV, hl] at hlk
  simp only [Option.map_some, Option.getD_some, Option.isSome_some, noteV] at hlk
  obtain ⟨born, done⟩ := n
  have ka : Keep (fun _ => False) w (w.alloc (.cells #[.int .i64 born, .int .i64 done] 146)).drew := ((Keep.refl _ _).alloc _).drew
  have hz := h.lt
  have hcb : w.heap.size ≠ cb := by omega
  have htm := (h.ok.times _ (lk_mem hl)).1
  obtain ⟨Y, hY⟩ : ∃ Y, Y = youngT c.least born now := ⟨_, rfl⟩
  have hYi : 0 ≤ Y ∧ Y ≤ 1125899906842624 := by rw [hY]; exact youngT_in htm hn.1 c.least
  have HC : Calls Try.prog 81 #[.pointer (some ⟨cb, 0, none⟩), .agg #[.int .i64 born, .int .i64 done], .int .i64 now] (w.alloc (.cells #[.int .i64 born, .int .i64 done] 146)).drew fun e w' => e = .returned (.int .i64 Y) ∧ Keep (fun _ => False) (w.alloc (.cells #[.int .i64 born, .int .i64 done] 146)).drew w' := by
    rw [hY]; exact young_any (ka.heap h.blk id) born done now htm h.ok.least hn
  have hg : c.gone nm.data.toList now = { c with notes := delK nm.data.toList c.notes, lost := c.lost + Y } := by unfold CS.gone; rw [hl, hY]
  rw [hg]
  have H := Lib.hid (h.keep0 ka)
  have HC := Lib.hid HC
  have HKA := Lib.hid ka
  obtain ⟨lost, hlo⟩ : ∃ l, l = c.lost := ⟨_, rfl⟩
  have hl0 : 0 ≤ lost := by rw [hlo]; exact h.ok.lost.1
  rw [← hlo] at hlost
  have d5 : (w.alloc (.cells #[.int .i64 born, .int .i64 done] 146)).drew.cell? ⟨cb, 5, none⟩ = some (.int .i64 lost) := by rw [cell_blk H.out.blk, hlo]; rfl
  have d5f : (w.alloc (.cells #[.int .i64 born, .int .i64 done] 146)).drew.frozen? ⟨cb, 5, none⟩ = false := frozen_blk H.out.blk 5
  have b6 := alloc_new w (.cells #[.int .i64 born, .int .i64 done] 146)
  have e0 : (w.alloc (.cells #[.int .i64 born, .int .i64 done] 146)).drew.cell? ⟨w.heap.size, 0, none⟩ = some (.int .i64 born) := by rw [cell_blk ((Keep.refl (fun _ => False) _).drew.heap b6 id)]; rfl
  have e1 : (w.alloc (.cells #[.int .i64 born, .int .i64 done] 146)).drew.cell? ⟨w.heap.size, 1, none⟩ = some (.int .i64 done) := by rw [cell_blk ((Keep.refl (fun _ => False) _).drew.heap b6 id)]; rfl
  have hwr : IntKind.i64.wrap (lost + Y) = lost + Y := by rw [IntKind.wrap_i64]; omega
  have HLO := Lib.hid hlo
  clear h hl ka htm hY hg b6 hlo
  go_enter Try.func80, Try.ntmps80
  go_wp2_with fail
  go_region_with (first | (go_at_call 81; refine HC.out.mono ?_; rintro e w' ⟨rfl, kY⟩; have hc5 := cell_blk (kY.heap H.out.blk id) 5; have hf5 := frozen_blk (kY.heap H.out.blk id) 5; simp [← HLO.out] at hc5; have HKY := Lib.hid kY; clear kY))
  all_goals have j := H.out.keep0 HKY.out
  all_goals have k3 : Keep (· = cb) w' (w'.setCell ⟨cb, 5, none⟩ (.int .i64 (lost + Y))) := (Keep.refl (· = cb) w').setCell (p := ⟨cb, 5, none⟩) (fun _ => rfl) _
  all_goals have b3 : (w'.setCell ⟨cb, 5, none⟩ (.int .i64 (lost + Y))).heap[cb]? = some (.cells #[.pointer (some ⟨sb, 0, none⟩), .map (some mb), .int .i64 c.jobs, .int .i64 c.life, .int .i64 c.least, .int .i64 (lost + Y)] 76 (0, 0)) := by rw [set_blk j.blk 5]; rfl
  all_goals have m3 := j.map.keep k3 (fun e => j.ne e)
  all_goals have d1 : (w'.setCell ⟨cb, 5, none⟩ (.int .i64 (lost + Y))).cell? ⟨cb, 1, none⟩ = some (.map (some mb)) := by rw [cell_blk b3]; rfl
  all_goals obtain ⟨W4, hdel, hm4, hk4⟩ := MapP.drop Try.underlying9 Try.underlying74 m3 nm hnm 0
  all_goals rw [delK_mapV] at hm4
  all_goals have hfin := gone_fin (nm := nm) j k3 b3 HLO.out hl0 hlost hYi hm4 hk4
  all_goals have hkf : Keep (fun x => x = cb ∨ x = mb) w W4 := (((HKA.out.trans HKY.out).mono (fun _ _ e => e.elim)).trans (k3.mono (fun _ _ e => .inl e))).trans (hk4.mono (fun _ _ e => .inr e))
  all_goals have HFIN := Lib.hid hfin
  all_goals have HKF := Lib.hid hkf
  all_goals clear hfin hkf j k3 b3 m3 hm4 hk4
  all_goals go_wp2
  all_goals go_end0
  all_goals exact ⟨rfl, HFIN.out, HKF.out⟩
end Go.Proofs.Ytgnigkghkldcfaa

/-! cold: State, Left, Lost. -/
namespace Go.Proofs.Ytgnigkghkldcfaa
open Go.RowKit Go.Proofs Go.Lib

/-- what a thing is, by its name -/
def CS.state (c : CS) (nm : Bs) (now : Int) : Int := match lk c.notes nm with | none => -1 | some n => stateT c.life n.2 (heldT now)
/-- how long a thing is young yet, by its name -/
def CS.left (c : CS) (nm : Bs) (now : Int) : Int := match lk c.notes nm with | none => 0 | some n => youngT c.least n.1 (heldT now)

section
variable {w : World} {cb sb mb : Nat} {f : Value} {S : Nat → Prop} {c : CS} (h : ColdAt w cb sb mb f S c)
include h
theorem lost_any : Calls Try.prog 51 #[.pointer (some ⟨cb, 0, none⟩)] w fun e w' => e = .returned (.int .i64 c.lost) ∧ w = w' := by
  have c5 : w.cell? ⟨cb, 5, none⟩ = some (.int .i64 c.lost) := by rw [cell_blk h.blk]; rfl
  clear h
  go_enter Try.func51, Try.ntmps51
  go_wp2
  go_ret
  exact ⟨rfl, rfl⟩

set_option maxRecDepth 100000 in
theorem cstate_any (nm : ByteArray) (hnm : nm.size ≤ maxLen) (now : Int) (hn : -9223372036854775808 ≤ now ∧ now ≤ 9223372036854775807) :
    Calls Try.prog 47 #[.pointer (some ⟨cb, 0, none⟩), .string nm, .int .i64 now] w fun e w' => e = .returned (.int .i64 (c.state nm.data.toList now)) ∧ Keep (fun _ => False) w w' := by
  have c1 : w.cell? ⟨cb, 1, none⟩ = some (.map (some mb)) := by rw [cell_blk h.blk]; rfl
  have hlk := MapP.look_ok Try.underlying9 Try.underlying74 h.map nm hnm (zero_note w)
  rw [lk_mapV] at hlk
  unfold CS.state
  cases hl : lk c.notes nm.data.toList with
  | none =>
    rw [hl] at hlk
    simp only [Option.map_none, Option.getD_none, Option.isSome_none] at hlk
    clear h hl
    go_enter Try.func47, Try.ntmps47
    go_wp2
    go_ret
    exact ⟨rfl, (Keep.refl _ _).alloc _⟩
  | some n =>
    rw [hl] at hlk
    simp only [Option.map_some, Option.getD_some, Option.isSome_some, noteV] at hlk
    obtain ⟨born, done⟩ := n
    dsimp only at hlk ⊢
    have ka : Keep (fun _ => False) w (w.alloc (.cells #[.int .i64 born, .int .i64 done] 146)).drew := ((Keep.refl _ _).alloc _).drew
    obtain ⟨Y, hY⟩ : ∃ Y, Y = stateT c.life done (heldT now) := ⟨_, rfl⟩
    obtain ⟨T, hT⟩ : ∃ T, T = heldT now := ⟨_, rfl⟩
    have HD := Lib.hid (show ∀ W, Calls Try.prog 79 #[.int .i64 now] W fun e w' => e = .returned (.int .i64 T) ∧ W = w' from fun W => hT ▸ held_any now W hn)
    have HC := Lib.hid (show Calls Try.prog 83 #[.pointer (some ⟨cb, 0, none⟩), .agg #[.int .i64 born, .int .i64 done], .int .i64 T] (w.alloc (.cells #[.int .i64 born, .int .i64 done] 146)).drew fun e w' => e = .returned (.int .i64 Y) ∧ Keep (fun _ => False) (w.alloc (.cells #[.int .i64 born, .int .i64 done] 146)).drew w' by
      rw [hY, hT]; exact state_any (ka.heap h.blk id) born done (heldT now) (h.ok.times _ (lk_mem hl)).2 h.ok.life)
    rw [← hY]
    have b6 := alloc_new w (.cells #[.int .i64 born, .int .i64 done] 146)
    have e0 : (w.alloc (.cells #[.int .i64 born, .int .i64 done] 146)).drew.cell? ⟨w.heap.size, 0, none⟩ = some (.int .i64 born) := by rw [cell_blk ((Keep.refl (fun _ => False) _).drew.heap b6 id)]; rfl
    have e1 : (w.alloc (.cells #[.int .i64 born, .int .i64 done] 146)).drew.cell? ⟨w.heap.size, 1, none⟩ = some (.int .i64 done) := by rw [cell_blk ((Keep.refl (fun _ => False) _).drew.heap b6 id)]; rfl
    have HKA := Lib.hid ka
    clear h hl ka hY hT b6
    go_enter Try.func47, Try.ntmps47
    go_wp2_with fail
    go_region_with (first | (go_at_call 79; refine (HD.out _).mono ?_; rintro e w' ⟨rfl, rfl⟩) | (go_at_call 83; refine HC.out.mono ?_; rintro e w' ⟨rfl, kY⟩))
    all_goals go_wp2
    all_goals go_ret
    all_goals exact ⟨rfl, HKA.out.trans (by assumption)⟩

set_option maxRecDepth 100000 in
theorem cleft_any (nm : ByteArray) (hnm : nm.size ≤ maxLen) (now : Int) (hn : -9223372036854775808 ≤ now ∧ now ≤ 9223372036854775807) :
    Calls Try.prog 52 #[.pointer (some ⟨cb, 0, none⟩), .string nm, .int .i64 now] w fun e w' => e = .returned (.int .i64 (c.left nm.data.toList now)) ∧ Keep (fun _ => False) w w' := by
  have c1 : w.cell? ⟨cb, 1, none⟩ = some (.map (some mb)) := by rw [cell_blk h.blk]; rfl
  have hlk := MapP.look_ok Try.underlying9 Try.underlying74 h.map nm hnm (zero_note w)
  rw [lk_mapV] at hlk
  unfold CS.left
  cases hl : lk c.notes nm.data.toList with
  | none =>
    rw [hl] at hlk
    simp only [Option.map_none, Option.getD_none, Option.isSome_none] at hlk
    clear h hl
    go_enter Try.func52, Try.ntmps52
    go_wp2
    go_ret
    exact ⟨rfl, (Keep.refl _ _).alloc _⟩
  | some n =>
    rw [hl] at hlk
    simp only [Option.map_some, Option.getD_some, Option.isSome_some, noteV] at hlk
    obtain ⟨born, done⟩ := n
    dsimp only at hlk ⊢
    have ka : Keep (fun _ => False) w (w.alloc (.cells #[.int .i64 born, .int .i64 done] 146)).drew := ((Keep.refl _ _).alloc _).drew
    obtain ⟨Y, hY⟩ : ∃ Y, Y = youngT c.least born (heldT now) := ⟨_, rfl⟩
    obtain ⟨T, hT⟩ : ∃ T, T = heldT now := ⟨_, rfl⟩
    have HD := Lib.hid (show ∀ W, Calls Try.prog 79 #[.int .i64 now] W fun e w' => e = .returned (.int .i64 T) ∧ W = w' from fun W => hT ▸ held_any now W hn)
    have HC := Lib.hid (show Calls Try.prog 81 #[.pointer (some ⟨cb, 0, none⟩), .agg #[.int .i64 born, .int .i64 done], .int .i64 T] (w.alloc (.cells #[.int .i64 born, .int .i64 done] 146)).drew fun e w' => e = .returned (.int .i64 Y) ∧ Keep (fun _ => False) (w.alloc (.cells #[.int .i64 born, .int .i64 done] 146)).drew w' by
      rw [hY, hT]; exact young_any (ka.heap h.blk id) born done (heldT now) (h.ok.times _ (lk_mem hl)).1 h.ok.least (heldT_in now))
    rw [← hY]
    have b6 := alloc_new w (.cells #[.int .i64 born, .int .i64 done] 146)
    have e0 : (w.alloc (.cells #[.int .i64 born, .int .i64 done] 146)).drew.cell? ⟨w.heap.size, 0, none⟩ = some (.int .i64 born) := by rw [cell_blk ((Keep.refl (fun _ => False) _).drew.heap b6 id)]; rfl
    have e1 : (w.alloc (.cells #[.int .i64 born, .int .i64 done] 146)).drew.cell? ⟨w.heap.size, 1, none⟩ = some (.int .i64 done) := by rw [cell_blk ((Keep.refl (fun _ => False) _).drew.heap b6 id)]; rfl
    have HKA := Lib.hid ka
    clear h hl ka hY hT b6
    go_enter Try.func52, Try.ntmps52
    go_wp2_with fail
    go_region_with (first | (go_at_call 79; refine (HD.out _).mono ?_; rintro e w' ⟨rfl, rfl⟩) | (go_at_call 81; refine HC.out.mono ?_; rintro e w' ⟨rfl, kY⟩))
    all_goals go_wp2
    all_goals go_ret
    all_goals exact ⟨rfl, HKA.out.trans (by assumption)⟩
end
end Go.Proofs.Ytgnigkghkldcfaa

/-! cold: Put. -/
namespace Go.Proofs.Ytgnigkghkldcfaa
open Go.RowKit Go.Proofs Go.Lib

section
variable {w w' : World} {cb sb mb : Nat} {f : Value} {S S' : Nat → Prop} {c : CS}
theorem ColdAt.turn (h : ColdAt w cb sb mb f S c) {o' : OS} (h1 : St w' sb f S' o') (t : Turn S S' w w') : ColdAt w' cb sb mb f S' { c with o := o' } :=
  ⟨t.keep.heap h.blk h.ncb, h1, h.map.keep t.keep h.nmb, fun e => (t.grow _ e).elim h.ncb (fun e => by have := h.lt.1; omega), fun e => (t.grow _ e).elim h.nmb (fun e => by have := h.lt.2; omega), ⟨h.ok.rising, h.ok.times, h.ok.jobs, h.ok.life, h.ok.least, h.ok.lost, h.ok.many⟩⟩

theorem gone_any (h : ColdAt w cb sb mb f S c) (nm : ByteArray) (hnm : nm.size ≤ maxLen) (now : Int) (hn : 0 ≤ now ∧ now ≤ 1125899906842624) (hlost : c.lost ≤ 4000000000000000000) :
    Calls Try.prog 80 #[.pointer (some ⟨cb, 0, none⟩), .string nm, .int .i64 now] w fun e w' => e = .returned (.tuple #[]) ∧ ColdAt w' cb sb mb f S (c.gone nm.data.toList now) ∧ Keep (fun x => x = cb ∨ x = mb) w w' := by
  cases hl : lk c.notes nm.data.toList with
  | none =>
    have e : c.gone nm.data.toList now = c := by unfold CS.gone; rw [hl]
    rw [e]
    exact (gone_none h nm hnm now hl).mono (fun e w' ⟨h1, h2⟩ => ⟨h1, h.keep0 h2, h2.mono (fun _ _ e => e.elim)⟩)
  | some n => exact gone_some h nm hnm now hn n hl hlost
end

theorem gone_notes (c : CS) (nm : Bs) (now : Int) : (c.gone nm now).notes = delK nm c.notes := by
  unfold CS.gone
  cases hl : lk c.notes nm with
  | none => exact (delK_none hl).symm
  | some n => rfl
theorem gone_rest (c : CS) (nm : Bs) (now : Int) : (c.gone nm now).o = c.o ∧ (c.gone nm now).jobs = c.jobs ∧ (c.gone nm now).life = c.life ∧ (c.gone nm now).least = c.least := by
  unfold CS.gone
  cases hl : lk c.notes nm with
  | none => exact ⟨rfl, rfl, rfl, rfl⟩
  | some n => exact ⟨rfl, rfl, rfl, rfl⟩

/-- with a thing anew -/
def CS.set (c : CS) (nm : Bs) (n : Int × Int) : CS := { c with notes := putK nm n c.notes }
def CS.put (c : CS) (nm b : Bs) (now : Int) : CS :=
  if c.o.putCode nm b = 0 then (({ c with o := c.o.put nm b } : CS).gone nm (heldT now)).set nm (heldT now, -1) else { c with o := c.o.put nm b }

/-- how a call of a cold store turns it -/
def ColdPost (cb sb mb : Nat) (f : Value) (S : Nat → Prop) (c' : CS) (w w' : World) : Prop :=
  ∃ S', ColdAt w' cb sb mb f S' c' ∧ Keep (fun x => S x ∨ x = cb ∨ x = mb) w w' ∧ ∀ x, S' x → S x ∨ w.heap.size ≤ x

theorem ColdAt.set {w w' : World} {cb sb mb : Nat} {f : Value} {S : Nat → Prop} {c : CS} (h : ColdAt w cb sb mb f S c) {nm : Bs} {n : Int × Int} (hm : MapP Try.prog 9 w' mb (putK nm (noteV n) (mapV noteV c.notes))) (hk : Keep (· = mb) w w') (hn : (0 ≤ n.1 ∧ n.1 ≤ 1125899906842624) ∧ (-1 ≤ n.2 ∧ n.2 ≤ 1125899906842624)) (hl : (putK nm n c.notes).length ≤ 4097) : ColdAt w' cb sb mb f S (c.set nm n) :=
  h.note (c' := c.set nm n) (by rw [putK_mapV] at hm; exact hm) hk rfl ⟨rfl, rfl, rfl, rfl⟩ ⟨rising_putK h.ok.rising, fun e he => (mem_putK he).elim (fun e1 => by rw [e1]; exact hn) (h.ok.times e), h.ok.jobs, h.ok.life, h.ok.least, h.ok.lost, hl⟩

set_option maxRecDepth 100000 in
theorem cput_any {w : World} {cb sb mb : Nat} {f : Value} {S : Nat → Prop} {c : CS} (h : ColdAt w cb sb mb f S c) (hl : c.o.left ≠ 0) (ho : c.o.ops < 4611686018427387904) (hlost : c.lost ≤ 4000000000000000000) (hmany : c.notes.length ≤ 4096) (nm : ByteArray) (hnm : nm.size ≤ maxLen) (bv : Value) (b : Bs) (hb : BytesAt w bv b) (hbl : b.length ≤ 140737488355328) (now : Int) (hn : -9223372036854775808 ≤ now ∧ now ≤ 9223372036854775807) :
    Calls Try.prog 44 #[.pointer (some ⟨cb, 0, none⟩), .string nm, bv, .int .i64 now] w fun e w' => e = .returned (.int .i64 (c.o.putCode nm.data.toList b)) ∧ ColdPost cb sb mb f S (c.put nm.data.toList b now) w w' := by
  obtain ⟨ba, bn, bc, rfl⟩ : ∃ a n c, bv = .slice a n c := let ⟨_, a, c, e, _⟩ := hb; ⟨a, _, c, e⟩
  have c0 : w.cell? ⟨cb, 0, none⟩ = some (.pointer (some ⟨sb, 0, none⟩)) := by rw [cell_blk h.blk]; rfl
  have HP := Lib.hid (h.st.put hl ho nm hnm _ b hb hbl)
  have HD := Lib.hid (fun W => held_any now W hn)
  have H := Lib.hid h
  have hz := h.lt
  obtain ⟨code, hcode⟩ : ∃ k, k = c.o.putCode nm.data.toList b := ⟨_, rfl⟩
  have HCO := Lib.hid hcode
  rw [← hcode]
  by_cases hc : code = 0
  · have hput : c.put nm.data.toList b now = (({ c with o := c.o.put nm.data.toList b } : CS).gone nm.data.toList (heldT now)).set nm.data.toList (heldT now, -1) := by unfold CS.put; rw [if_pos (by rw [← hcode]; exact hc)]
    rw [hput]
    clear hput hcode h hb
    subst hc
    go_enter Try.func44, Try.ntmps44
    go_wp2_with fail
    refine HP.out.mono ?_
    rintro e W1 ⟨S', rfl, h1, t1⟩
    rw [← HCO.out]
    have j1 := H.out.turn h1 t1
    have HJ := Lib.hid j1; have HT := Lib.hid t1
    clear h1 t1
    go_wp2_with fail
    refine (HD.out _).mono ?_
    rintro e W2 ⟨rfl, rfl⟩
    go_wp2_with fail
    refine (gone_any HJ.out nm hnm (heldT now) (heldT_in now) hlost).mono ?_
    rintro e W3 ⟨rfl, j3, k3⟩
    have d1 : W3.cell? ⟨cb, 1, none⟩ = some (.map (some mb)) := by rw [cell_blk j3.blk]; rfl
    have hlen : (delK nm.data.toList c.notes).length ≤ 4096 := Nat.le_trans (delK_le _ _) hmany
    obtain ⟨W4, hupd, hm4, hk4⟩ := MapP.update Try.underlying9 Try.underlying74 j3.map nm hnm (by
      rw [length_mapV, gone_notes]
      show (delK nm.data.toList c.notes).length < maxLen
      unfold maxLen; omega) (.agg #[.int .i64 (heldT now), .int .i64 (-1)])
    have j4 := j3.set (nm := nm.data.toList) (n := (heldT now, -1)) hm4 hk4 ⟨heldT_in now, by show (-1 : Int) ≤ -1; omega, by show (-1 : Int) ≤ _; omega⟩ (by
      rw [gone_notes]
      unfold putK
      rw [length_insK]
      have h5 := delK_le nm.data.toList (delK nm.data.toList c.notes)
      show (delK nm.data.toList (delK nm.data.toList c.notes)).length + 1 ≤ 4097
      omega)
    have hfin : ColdPost cb sb mb f S ((({ c with o := c.o.put nm.data.toList b } : CS).gone nm.data.toList (heldT now)).set nm.data.toList (heldT now, -1)) w W4 :=
      ⟨S', j4, (((HT.out.keep.mono (fun _ _ e => .inl e)).trans (k3.mono (fun _ _ e => .inr e))).trans (hk4.mono (fun _ _ e => .inr (.inr e)))), HT.out.grow⟩
    have HF := Lib.hid hfin
    clear hfin j3 j4 k3 hm4 hk4
    go_wp2
    go_ret
    exact ⟨rfl, HF.out⟩
  · have hput : c.put nm.data.toList b now = { c with o := c.o.put nm.data.toList b } := by unfold CS.put; rw [if_neg (by rw [← hcode]; exact hc)]
    rw [hput]
    have hcb : (code == 0) = false := by simpa using hc
    clear hput hcode h hb hc
    go_enter Try.func44, Try.ntmps44
    go_wp2_with fail
    refine HP.out.mono ?_
    rintro e W1 ⟨S', rfl, h1, t1⟩
    rw [← HCO.out]
    have hfin : ColdPost cb sb mb f S { c with o := c.o.put nm.data.toList b } w W1 := ⟨S', H.out.turn h1 t1, t1.keep.mono (fun _ _ e => .inl e), t1.grow⟩
    have HF := Lib.hid hfin
    clear hfin h1 t1
    go_wp2
    go_ret
    exact ⟨rfl, HF.out⟩
end Go.Proofs.Ytgnigkghkldcfaa
