/-
  A range over a function, under the fence that asks nothing: the iterator may lay memory of its own (Pv), and leans on blocks that were there (Qb); a round keeps both.
-/
import Derived.Test.YtlajejbglpggeaaBase0
import Derived.RangeFuncNested
import Derived.RangeFuncBound
import Derived.RangeFuncCalls
import Derived.RangeFuncLeaves
import Derived.OwnWalkIn
import Derived.TacticsInMore
import Derived.LoopNIn
import Derived.LoopIn
namespace Go.Proofs.Ytlajejbglpggeaa
open Go.RowKit Go.Proofs

/-- the blocks of B lie as they lay -/
def KeepB (B : Nat → Prop) (W W' : World) : Prop := W.heap.size ≤ W'.heap.size ∧ ∀ k, B k → W'.heap[k]? = W.heap[k]?
theorem KeepB.refl (B : Nat → Prop) (W : World) : KeepB B W W := ⟨Nat.le_refl _, fun _ _ => rfl⟩
theorem KeepB.trans {B : Nat → Prop} {X Y Z : World} (h : KeepB B X Y) (k : KeepB B Y Z) : KeepB B X Z := ⟨Nat.le_trans h.1 k.1, fun i hi => (k.2 i hi).trans (h.2 i hi)⟩
theorem KeepB.of_keep {F B : Nat → Prop} {X Y : World} (h : Keep F X Y) (hB : ∀ k, B k → k < X.heap.size ∧ ¬ F k) : KeepB B X Y := ⟨h.size, fun k hk => h.block k (hB k hk).1 (hB k hk).2⟩

variable {P : Program}

def IterAt {α : Type} (P : Program) (n g : Nat) (lb : Array Value) (encs : α → Array Value) (xs : List α) (Qb : Nat → Prop) (W : World) : Prop :=
  ∀ (l : Nat) (J : (Nat → Prop) → List α → World → Prop) (Jx : List α → World → Prop),
    (∀ W2 Pv, Below W.heap.size W W2 → (∀ k, Pv k → W.heap.size ≤ k ∧ k < W2.heap.size) → J Pv [] W2) →
    (∀ Pv pre x W1, J Pv pre W1 → pre ++ [x] <+: xs → YieldAt Fence.wide (n - 1) P l (encs x) W1 fun e W' =>
      (e = .returned (.bool true) ∧ J Pv (pre ++ [x]) W' ∧ KeepB (fun k => Pv k ∨ Qb k) W1 W') ∨ (e = .returned (.bool false) ∧ Jx (pre ++ [x]) W')) →
    CallsIn Fence.wide n P g (#[.func (.yield l) #[] #[]] ++ lb) W fun e W' => (∃ v, e = .returned v) ∧ ((∃ Pv, J Pv xs W') ∨ (∃ pre, pre <+: xs ∧ Jx pre W'))

/-- How the body of a round may be left. -/
def rangePostA {α : Type} (B : Nat → Prop) (I : List α → World → Prop) (Ix : Code → List α → World → Prop) (xs : List α) (W : World) : Exit → Act → World → Prop
  | .normal, _, W' => KeepB B W W' ∧ I xs W'
  | .ret, _, W' => KeepB B W W' ∧ Ix .ret xs W'
  | .exit id, _, W' => KeepB B W W' ∧ Ix (.exit id) xs W'
  | _, _, _ => False

theorem wp_range {α : Type} {n : Nat} {g : Operand} {ps : Array Tmp} {assign body : Code} {Q : Exit → Act → World → Prop} {a : Act} {w : World}
    {gf : Nat} {lb : Array Value} (hg : a.eval g = .func (.func gf) #[] lb) (eg : ∀ args w, (callFunc gf args).run P w = .ok (.enter gf args) w)
    {encs : α → Array Value} {xs : List α} {Qb : Nat → Prop} (hQb : ∀ k, Qb k → k < w.heap.size) (hseq : ∀ W, Below w.heap.size w W → IterAt P (n - 1) gf lb encs xs Qb W) (hps : ∀ x, (encs x).size = ps.size)
    (I : (Nat → Prop) → List α → World → Prop) (Ix : Code → List α → World → Prop)
    (hI0 : ∀ W Pv, Below w.heap.size w W → (∀ k, Pv k → w.heap.size + 2 ≤ k) → I Pv [] W)
    (hIp : ∀ Pv pre W (r : Loop) o', I Pv pre W → W.heap[w.heap.size + 1]? = some (.loop r) → I Pv pre (W.putObj (w.heap.size + 1) o'))
    (hIxp : ∀ c pre W (r : Loop) o', Ix c pre W → W.heap[w.heap.size + 1]? = some (.loop r) → Ix c pre (W.putObj (w.heap.size + 1) o'))
    (a₁ : α → Act)
    (hassign : ∀ (l : Nat) (x : α) (W : World) (K : Act → World → Prop), K (a₁ x) W →
      assign.wpIn (Fence.wide.inRound l) (n - 1 - 1) P (Exit.then K (fun _ _ _ => False)) { tmps := (ps.zip (encs x)).foldl (fun t (p, v) => t.setIfInBounds p v) a.tmps, defers := [] } W)
    (hbody : ∀ (l : Nat) (Pv : Nat → Prop) (pre : List α) (x : α) (W : World), l = w.heap.size + 1 → I Pv pre W → pre ++ [x] <+: xs → (∃ r : Loop, W.heap[w.heap.size + 1]? = some (.loop r)) → W.heap[w.heap.size]? = some (.deferred (some [])) → (∀ k, Pv k → w.heap.size + 2 ≤ k ∧ k < W.heap.size) →
      body.wpIn (Fence.wide.inRound l) (n - 1 - 1) P (rangePostA (fun k => k = w.heap.size + 1 ∨ k = w.heap.size ∨ Pv k ∨ Qb k) (I Pv) Ix (pre ++ [x]) W) (a₁ x) W)
    (hdone : ∀ (Pv : Nat → Prop) (W : World), I Pv xs W → W.heap[w.heap.size]? = some (.deferred (some [])) → Q .normal { a with defers := { target := .collected w.heap.size, args := #[] } :: a.defers } W)
    (hstop : ∀ (c : Code) (pre : List α) (W : World), pre <+: xs → Ix c pre W → W.heap[w.heap.size]? = some (.deferred (some [])) → c.wpIn Fence.wide n P Q { a with defers := { target := .collected w.heap.size, args := #[] } :: a.defers } W) :
    (Code.rangeFunc g ps assign body).wpIn Fence.wide n P Q a w := by
  refine wpIn_rangeFunc ?_
  intro fn hfn
  obtain ⟨rec, hrec⟩ : ∃ rec : LoopState → Option Code → Loop, rec = fun st pe => { state := st, pending := pe, fn, tmps := a.tmps, params := ps, assign, body, defers := w.heap.size } := ⟨_, rfl⟩
  obtain ⟨W1, hW1⟩ : ∃ W1, (w.alloc (.deferred (some []))).alloc (.loop (rec .ready none)) = W1 := ⟨_, rfl⟩
  have hL1 : W1.heap[w.heap.size + 1]? = some (.loop (rec .ready none)) := by
    rw [← hW1]; have := World.alloc_heap_new (w.alloc (.deferred (some []))) (.loop (rec .ready none)); rwa [World.size_alloc] at this
  have hK1 : W1.heap[w.heap.size]? = some (.deferred (some [])) := by
    rw [← hW1]; exact (Below.heap_alloc _ _ _ (by simp)).trans (World.alloc_heap_new w _)
  have hs1 : W1.heap.size = w.heap.size + 2 := by rw [← hW1]; simp
  have hb1 : Below w.heap.size w W1 := by
    rw [← hW1]; exact ((Below.refl _ w).alloc (Nat.le_refl _) _).alloc (by simp) _
  refine ⟨w.heap.size + 1, [{ target := .collected w.heap.size, args := #[] }], W1, { target := .fn (.func gf) lb, args := #[.func (.yield (w.heap.size + 1)) #[] #[]] }, W1, gf,
    #[.func (.yield (w.heap.size + 1)) #[] #[]] ++ lb, W1, ?_, ?_, ?_, ?_, fun h => by simp [Fence.wide] at h, ?_⟩
  · rw [← hW1, hrec]; exact run_enterLoop_outer _ _ _ _ _
  · simp only [resolve, hg]
    simp [go_sem]
  · intro f' hf'; trivial
  · simp [invoke, go_sem, eg]
  · refine (hseq W1 hb1 (w.heap.size + 1)
      (fun Pv pre W => I Pv pre W ∧ W.heap[w.heap.size + 1]? = some (.loop (rec .ready none)) ∧ W.heap[w.heap.size]? = some (.deferred (some [])) ∧ ∀ k, Pv k → w.heap.size + 2 ≤ k ∧ k < W.heap.size)
      (fun pre W => ∃ c, Ix c pre W ∧ W.heap[w.heap.size + 1]? = some (.loop (rec .done (some c))) ∧ W.heap[w.heap.size]? = some (.deferred (some [])))
      ?_ ?_).mono ?_
    · intro W2 Pv hb2 hPv
      refine ⟨hI0 W2 Pv (hb1.trans (hb2.mono (by omega))) (fun k hk => by have := (hPv k hk).1; omega), (hb2.block _ (by omega)).trans hL1, (hb2.block _ (by omega)).trans hK1, fun k hk => by have := hPv k hk; omega⟩
    · rintro Pv pre x W ⟨hi, hl, hk, hP⟩ hpre
      have hlt : w.heap.size + 1 < W.heap.size := (Array.getElem?_eq_some_iff.1 hl).1
      have hy := run_yield (P := P) (args := encs x) hl (by rw [hrec]; exact hps x)
      rw [hrec] at hy
      refine ⟨fn, _, assign, body, hy, roundIn_of_wpIn hfn (hassign _ x W _ ⟨_, run_beginRound hl (by rw [hrec]), ?_⟩)⟩
      have hl2 : (W.putObj (w.heap.size + 1) (.loop { rec .ready none with state := .busy })).heap[w.heap.size + 1]? = some (.loop { rec .ready none with state := .busy }) := World.putObj_heap_same hlt
      have hk2 : (W.putObj (w.heap.size + 1) (.loop { rec .ready none with state := .busy })).heap[w.heap.size]? = some (.deferred (some [])) := (World.putObj_heap_other (by omega)).trans hk
      have hP2 : ∀ k, Pv k → w.heap.size + 2 ≤ k ∧ k < (W.putObj (w.heap.size + 1) (.loop { rec .ready none with state := .busy })).heap.size := fun k hk => by have := hP k hk; simpa using this
      have hw2 : KeepB (fun k => Pv k ∨ Qb k) W (W.putObj (w.heap.size + 1) (.loop { rec .ready none with state := .busy })) :=
        ⟨by simp, fun k hk => World.putObj_heap_other (by rcases hk with hk | hk; (have := hP k hk; omega); (have := hQb k hk; omega))⟩
      refine wpIn_mono (hbody _ Pv pre x _ rfl (hIp _ _ _ _ _ hi hl) hpre ⟨_, hl2⟩ hk2 hP2) ?_
      have fin : ∀ (jump : Option Code) (W3 : World), KeepB (fun k => k = w.heap.size + 1 ∨ k = w.heap.size ∨ Pv k ∨ Qb k) (W.putObj (w.heap.size + 1) (.loop { rec .ready none with state := .busy })) W3 →
          (Instr.endRound (w.heap.size + 1) jump).run P W3 = .ok (.bool jump.isNone) (W3.putObj (w.heap.size + 1) (.loop (rec (if jump.isNone then .ready else .done) jump))) ∧
          W3.heap[w.heap.size + 1]? = some (.loop { rec .ready none with state := .busy }) ∧
          (W3.putObj (w.heap.size + 1) (.loop (rec (if jump.isNone then .ready else .done) jump))).heap[w.heap.size + 1]? = some (.loop (rec (if jump.isNone then .ready else .done) jump)) ∧
          (W3.putObj (w.heap.size + 1) (.loop (rec (if jump.isNone then .ready else .done) jump))).heap[w.heap.size]? = some (.deferred (some [])) := fun jump W3 hk3 => by
        have hl3 := (hk3.2 _ (.inl rfl)).trans hl2
        have := run_endRound (P := P) jump hl3
        rw [hrec] at this ⊢
        exact ⟨this, by rw [hrec] at hl3; exact hl3, World.putObj_heap_same (Array.getElem?_eq_some_iff.1 hl3).1, (World.putObj_heap_other (by omega)).trans ((hk3.2 _ (.inr (.inl rfl))).trans hk2)⟩
      rintro e a3 W3 hp
      cases e with
      | normal =>
        obtain ⟨hk3, hi3⟩ := hp
        obtain ⟨hr, hl3, hl4, hk4⟩ := fin none W3 hk3
        refine ⟨_, _, hr, .inl ⟨rfl, ⟨hIp _ _ _ _ _ hi3 hl3, hl4, hk4, fun k hk => ?_⟩, ?_⟩⟩
        · have h1 := hP k hk; have h2 := hk3.1; rw [World.putObj_size] at h2 ⊢; omega
        · refine (hw2.trans ⟨hk3.1, fun k hk => hk3.2 k (.inr (.inr hk))⟩).trans ⟨by rw [World.putObj_size]; exact Nat.le_refl _, fun k hk => World.putObj_heap_other (by rcases hk with hk | hk; (have := hP k hk; omega); (have := hQb k hk; omega))⟩
      | ret =>
        obtain ⟨hk3, hi3⟩ := hp
        obtain ⟨hr, hl3, hl4, hk4⟩ := fin (some .ret) W3 hk3
        exact ⟨_, _, hr, .inr ⟨rfl, .ret, hIxp _ _ _ _ _ hi3 hl3, hl4, hk4⟩⟩
      | exit id =>
        obtain ⟨hk3, hi3⟩ := hp
        obtain ⟨hr, hl3, hl4, hk4⟩ := fin (some (.exit id)) W3 hk3
        exact ⟨_, _, hr, .inr ⟨rfl, .exit id, hIxp _ _ _ _ _ hi3 hl3, hl4, hk4⟩⟩
      | goto t => exact hp.elim
      | panic ch => exact hp.elim
      | outgrown => exact hp.elim
    · rintro e W2 ⟨⟨v, rfl⟩, (⟨Pv, hi, hl, hk, hP⟩ | ⟨pre, hpre, c, hi, hl, hk⟩)⟩
      · exact ⟨none, _, by have := run_endLoop (P := P) hl (by rw [hrec]; simp); rw [hrec] at this; exact this, hdone Pv _ (hIp _ _ _ _ _ hi hl) ((World.putObj_heap_other (by omega)).trans hk)⟩
      · exact ⟨some c, _, by have := run_endLoop (P := P) hl (by rw [hrec]; simp); rw [hrec] at this; exact this, hstop c pre _ hpre (hIxp _ _ _ _ _ hi hl) ((World.putObj_heap_other (by omega)).trans hk)⟩
end Go.Proofs.Ytlajejbglpggeaa
