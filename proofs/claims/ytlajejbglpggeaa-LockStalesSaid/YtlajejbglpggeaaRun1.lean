/-
  guard.Must, guard.Value, guard.Run: an error thrown, and caught.
-/
import Derived.Test.YtlajejbglpggeaaLe
import Derived.Test.YtlajejbglpggeaaCatch
import Derived.Test.YtlajejbglpggeaaStore
namespace Go.Proofs.Ytlajejbglpggeaa
open Go.RowKit Go.Proofs Go.Lib

theorem must_ok (w : World) : Calls Try.prog 27 #[.int .i64 0] w fun e w' => e = .returned (.tuple #[]) ∧ w = w' := by
  go_enter Try.func27, Try.ntmps27
  go_wp2
  go_end0
  exact ⟨rfl, rfl⟩
theorem must_err (k : Int) (hk : k ≠ 0) (w : World) : Calls Try.prog 27 #[.int .i64 k] w fun e w' => e = .panicked (errChain k) ∧ w = w' := by
  have h1 : (k != 0) = true := by simpa using hk
  have h2 : (k == 0) = false := by simpa using hk
  clear hk
  go_enter Try.func27, Try.ntmps27
  go_wp2
  exact ⟨rfl, rfl, rfl⟩
theorem must_any (k : Int) (w : World) : Calls Try.prog 27 #[.int .i64 k] w fun e w' => ((k = 0 ∧ e = .returned (.tuple #[])) ∨ (k ≠ 0 ∧ e = .panicked (errChain k))) ∧ w = w' := by
  by_cases hk : k = 0
  · subst hk
    exact (must_ok w).mono fun e w' h => ⟨.inl ⟨rfl, h.1⟩, h.2⟩
  · exact (must_err k hk w).mono fun e w' h => ⟨.inr ⟨hk, h.1⟩, h.2⟩
theorem valStrs_ok (v : Value) (w : World) : Calls Try.prog 39 #[v, .int .i64 0] w fun e w' => e = .returned v ∧ w = w' := by
  go_enter Try.func39, Try.ntmps39
  go_wp2_with fail
  refine (must_ok _).mono ?_
  rintro e w1 ⟨rfl, rfl⟩
  go_wp2
  go_ret
  exact ⟨rfl, rfl⟩
theorem valStrs_err (v : Value) (k : Int) (hk : k ≠ 0) (w : World) : Calls Try.prog 39 #[v, .int .i64 k] w fun e w' => e = .panicked (errChain k) ∧ w = w' := by
  have H := Lib.hid hk
  clear hk
  go_enter Try.func39, Try.ntmps39
  go_wp2_with fail
  refine (must_err k H.out _).mono ?_
  rintro e w1 ⟨rfl, rfl⟩
  exact ⟨rfl, rfl, rfl⟩

theorem run1_idle (p : Nat) (w : World) :
    CallsD Try.prog 38 #[.pointer (some ⟨p, 0, none⟩)] .returning w fun e u' w' => e = .returned (.tuple #[]) ∧ u' = .returning ∧ w' = w := by
  refine callsD_of_wpS Try.func38 rfl fun c₀ cs hu => ?_
  apply wpS_seq
  apply wpS_region
  simp [wpOpsS, go_sem, recoverD, hu, Try.ntmps38, Exit.thenS, Array.replicate_succ, Array.replicate_zero]
  refine wpS_of_wp ?_
  go_wp2
  cases c₀
  simp_all [bodyPostS, results, Try.results38]

set_option maxRecDepth 100000 in
theorem run1_err (p : Nat) (k : Int) (w : World) (hp : w.heap[p]? = some (.cells #[.int .i64 0] 29 (0, 0))) :
    CallsD Try.prog 38 #[.pointer (some ⟨p, 0, none⟩)] (.panicking (errChain k)) w fun e u' w' =>
      e = .returned (.tuple #[]) ∧ u' = .panicking [{ v := .iface 29 (.int .i64 k), recovered := true }] ∧ Keep (fun x => x = p) w w' ∧ w'.heap[p]? = some (.cells #[.int .i64 k] 29 (0, 0)) := by
  refine callsD_of_wpS Try.func38 rfl fun c₀ cs hu => ?_
  unfold errChain at hu
  have hta : ∀ (v : Value) (w : World), (Instr.typeAssert (.iface 29 v) 20 29 true).run Try.prog w = .ok (.tuple #[v, .bool true]) w := fun v w => by kernel_rfl
  have hp1 := cell_blk hp 0
  have hp2 := frozen_blk hp 0
  simp at hp1
  have hk := ((Keep.refl (fun x => x = p) w)).setCell (p := ⟨p, 0, none⟩) (fun _ => rfl) (.int .i64 k)
  have hn := set_blk hp 0 (.int .i64 k)
  have HK := Lib.hid hk; have HN := Lib.hid hn
  clear hk hn
  apply wpS_seq
  apply wpS_region
  simp [wpOpsS, go_sem, recoverD, hu, Try.ntmps38, Exit.thenS, Array.replicate_succ, Array.replicate_zero]
  refine wpS_of_wp ?_
  go_wp2
  cases c₀
  refine ⟨rfl, _, rfl, _, by simp [results, Try.results38], rfl, rfl, HK.out, HN.out⟩

/-- What a call of Run comes to. -/
def RunPost (w : World) (R0 : World → Prop) (R1 : Int → World → Prop) (e : Ending) (w' : World) : Prop :=
  ∃ w1 k, e = .returned (.int .i64 k) ∧ ((k = 0 ∧ R0 w1) ∨ R1 k w1) ∧ Keep (fun x => x = w.heap.size) w1 w'
def runW (w : World) : World := w.alloc (.cells #[.int .i64 0] 29)
theorem runW_keep (w : World) : Keep (fun _ => False) w (runW w) := (Keep.refl _ w).alloc _

set_option maxRecDepth 100000 in
theorem run_any (c : Clo) (hE : Enters Try.prog c.g) (w : World) (args : Array Value) (ha : c.first ++ c.cap = args) (R0 : World → Prop) (R1 : Int → World → Prop)
    (hK0 : ∀ w', R0 w' → Keep (fun k => k < w.heap.size) (runW w) w') (hK1 : ∀ k w', R1 k w' → Keep (fun k => k < w.heap.size) (runW w) w')
    (hR : Calls Try.prog c.g args (runW w) fun e w' => (e = .returned (.tuple #[]) ∧ R0 w') ∨ (∃ k, e = .panicked (errChain k) ∧ R1 k w')) :
    Calls Try.prog 21 #[c.val] w (RunPost w R0 R1) := by
  have hmf : ∀ (fn : Fn) (first cap : Array Value) (w : World), (Instr.makeFunc fn first cap).run Try.prog w = .ok (.func fn first cap) w := fun _ _ _ _ => rfl
  subst ha
  obtain ⟨g, first, cap⟩ := c
  unfold Clo.val
  have eg : ∀ args w, (callFunc g args).run Try.prog w = .ok (.enter g args) w := hE
  have hnf : ∀ w : World, (binOp .eql 1 (.func (.func g) first cap) .nilFunc).run Try.prog w = .ok (.bool false) w := fun w => by kernel_rfl
  unfold runW at hR
  dsimp only at hR
  have HR := Lib.hid hR
  clear hR
  go_enter_defers Try.func21, Try.ntmps21
  go_wp2_with fail
  refine HR.out.mono ?_
  have hp0 : (runW w).heap[w.heap.size]? = some (.cells #[.int .i64 0] 29 (0, 0)) := alloc_new _ _
  have HP := Lib.hid hp0; clear hp0
  rintro e w1 (⟨rfl, h0⟩ | ⟨k, rfl, h1⟩)
  · have hk := hK0 _ h0
    have hq := hk.heap HP.out (by simp)
    have c := cell_blk hq 0
    have f := frozen_blk hq 0
    simp at c
    have kk := (Keep.refl (fun k => k = w.heap.size) w1).setCell (p := ⟨w.heap.size, 0, none⟩) (fun _ => rfl) (.int .i64 0)
    have cc := cell_blk (set_blk hq 0 (.int .i64 0)) 0
    simp at cc
    have H1 := Lib.hid h0; have H2 := Lib.hid kk; have H3 := Lib.hid cc
    clear h0 hk kk cc hK0 hK1 hq
    go_wp2
    refine leaves_cons (f := 38) (args := #[.pointer (some ⟨w.heap.size, 0, none⟩)]) (by simp) (by simp [go_sem]) ?_
    refine (run1_idle _ _).mono ?_
    rintro e u' w'' ⟨rfl, rfl, rfl⟩
    refine ⟨.int .i64 0, ?_, w1, 0, rfl, .inl ⟨rfl, H1.out⟩, H2.out⟩
    simp [results, Try.results21, go_sem, H3.out]
  · have hk := hK1 _ _ h1
    have hp1 := hk.heap HP.out (by simp)
    refine leaves_cons (f := 38) (args := #[.pointer (some ⟨w.heap.size, 0, none⟩)]) (by simp) (by simp [go_sem]) ?_
    refine (run1_err _ k _ hp1).mono ?_
    rintro e u' w'' ⟨rfl, rfl, hkk, hqq⟩
    have cc := cell_blk hqq 0
    simp at cc
    refine ⟨.int .i64 k, ?_, w1, k, rfl, .inr h1, hkk⟩
    simp [results, Try.results21, go_sem, cc]
end Go.Proofs.Ytlajejbglpggeaa
