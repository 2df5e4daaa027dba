/-
  A region that draws its order, inside a round of a range over a function, by the laws that serve outside of one; the marks that ranges over functions leave among a frame's deferred calls. Over any program.
-/
import Derived.Test.YtgnigkghkldcfaaDraw
import Derived.Test.YtgnigkghkldcfaaRange
import Derived.Deep.Quiet
import Derived.Deep.QuietTactic
import Derived.StillTail
import Derived.StillTailTactics
namespace Go.Proofs.Ytgnigkghkldcfaa
open Go.RowKit Go.Proofs

def Go_noDefer : Op → Bool
  | .defer _ => false
  | _ => true
theorem noDefer_spec {ops : Array Oper} (h : ops.all (fun o => Go_noDefer o.op) = true) : ∀ (i : Nat) (o : Oper) (c : _), ops[i]? = some o → o.op ≠ .defer c := by
  intro i o c hi e
  have h1 := Array.all_eq_true.1 h i (Array.getElem?_eq_some_iff.1 hi).1
  rw [(Array.getElem?_eq_some_iff.1 hi).2, e] at h1
  cases h1

section
variable {P : Program} {md : Region.Mode} {ops : Array Oper} {Q : Exit → Act → World → Prop}
theorem wpAnyIn_of_wpAny {l n : Nat} (hops : ∀ (i : Nat) (o : Oper) (c : _), ops[i]? = some o → o.op ≠ .defer c) (hQ : ¬ LetsOut Q) :
    ∀ (fuel : Nat) (listed : Array Bool) (a : Act) (w : World), wpAny P md ops Q fuel listed a w → wpAnyIn (Fence.wide.inRound l) n P md ops Q fuel listed a w
  | 0, _, _, _, h => h
  | fuel + 1, listed, a, w, h => by
    refine ⟨h.1, fun i hi => ?_⟩
    have h2 := h.2 i hi
    unfold wpOp at h2
    unfold wpOpIn
    cases ho : ops[i]? with
    | none => rw [ho] at h2; exact wpAnyIn_of_wpAny hops hQ fuel _ _ _ h2
    | some o =>
      rw [ho] at h2
      dsimp only at h2 ⊢
      by_cases hw : Region.wanted o (yielded ops a.tmps) = true
      · rw [if_pos hw] at h2 ⊢
        rcases h2 with h2 | ⟨_, h2⟩
        · exact Oper.wpIn_mono (fun a' w' h' => wpAnyIn_of_wpAny hops hQ fuel _ a' w' h') (wpIn_of_wp (fun c => hops i o c ho) h2)
        · exact absurd h2 hQ
      · rw [if_neg hw] at h2 ⊢
        exact ⟨fun f _ => trivial, wpAnyIn_of_wpAny hops hQ fuel _ _ _ h2⟩
end

/-- a region that only reads -/
theorem round_quiet {P : Program} {Q : Exit → Act → World → Prop} {lp n : Nat} {id : Nat} {a : Act} {w : World} {l : List Oper} (hm : P.follows .mixedOrders = true) (hB : Region.lexB .any l.toArray = true) (hd : l.toArray.all (fun o => Go_noDefer o.op) = true) (hQ : ¬ LetsOut Q)
    (h : wpQuiet P l.toArray (fun w' => ∃ n, w' = w.drewN n) (fun a' => ∀ w', (∃ n, w' = w.drewN n) → Q .normal a' w') l a) : (Code.region id l.toArray true).wpIn (Fence.wide.inRound lp) n P Q a w := by
  simp only [Region.lexB, Bool.and_eq_true] at hB
  refine wpIn_region_any hm (wpAnyIn_of_wpAny (noDefer_spec hd) hQ _ _ _ _ ?_)
  refine wpAny_of_quiet (C := fun w' => ∃ n, w' = w.drewN n) (Q := fun a' => ∀ w', (∃ n, w' = w.drewN n) → Q .normal a' w') (fun _ w' hw' h => h w' hw') _ _ _ _ ⟨1, rfl⟩ ?_
  have := wpAnyQ_lex (C := fun w' => ∃ n, w' = w.drewN n) (md := .any) hB.1 l 0 (Array.replicate l.toArray.size false) a (by simp) (by simpa using hB.2) h
  simpa using this

/-- a region that reads, and then does one thing after another -/
theorem round_still_tail {P : Program} {Q : Exit → Act → World → Prop} {lp m : Nat} {id : Nat} {a : Act} {w : World} {l : List Oper} (n : Nat) (hm : P.follows .mixedOrders = true) (hB : Region.lexTailB .any l.toArray n = true) (hd : l.toArray.all (fun o => Go_noDefer o.op) = true) (hQ : ¬ LetsOut Q)
    (h : wpStill P l.toArray { w with drawn := w.drawn + 1 } (fun a' => wpList P l.toArray Q (l.drop n) a' { w with drawn := w.drawn + 1 }) (l.take n) a) : (Code.region id l.toArray true).wpIn (Fence.wide.inRound lp) m P Q a w := by
  simp only [Region.lexTailB, Bool.and_eq_true, decide_eq_true_eq] at hB
  obtain ⟨⟨⟨⟨hsel, hn⟩, hs⟩, hc⟩, hlex⟩ := hB
  have hn' : n < l.length := by simpa using hn
  have e1 : (l.take n).length = n := by simp; omega
  have e2 : (l.drop n).length = l.toArray.size - n := by simp
  have e3 : n + (l.toArray.size - n) = l.toArray.size := by simp; omega
  refine wpIn_region_any hm (wpAnyIn_of_wpAny (noDefer_spec hd) hQ _ _ _ _ ?_)
  have hh : HeadInv .any l.toArray n (Array.replicate l.toArray.size false) := ⟨by simp, fun j oj _ hl => (by rw [getD_replicate_false] at hl; cases hl), fun t _ ht => getD_in (by simpa using ht) (getD_replicate_false _ _)⟩
  have H := wpAnyL_lex (md := .any) (g := l.toArray.size - n) hsel hs hc hn (l.take n) 0 _ a (fun j hj => by rw [e1] at hj; simp [hj]) (by simpa using e1) hh (by rw [e1]; exact hlex) h
  have H2 := wpAny_of_head (Q' := Q) (g := l.toArray.size - n) (fun listed a' hL => by
    have h3 := wpAny_of_seq (md := .any) (Q' := Q) (l.drop n) n listed a' { w with drawn := w.drawn + 1 } (fun j => by simp [List.getElem?_drop]) (by rw [e2]; exact hL.1) hL.2
    rw [e2] at h3; exact h3) _ _ _ H
  rw [e1, e3] at H2
  exact H2

/-- the mark that a range over a function leaves -/
def markD (D : Nat) : Deferred := { target := .collected D, args := #[] }
theorem leaves_marks {F : Fence} {n : Nat} {P : Program} {fn : Func} {tmps : Array Value} {R : Ending → World → Prop} (v : Value) (hres : ∀ W, (results fn tmps).run P W = .ok v W) : ∀ (rs : List Nat) (W : World), rs.Nodup → (∀ r ∈ rs, W.heap[r]? = some (.deferred (some []))) →
    (∀ W', Keep (fun b => b ∈ rs) W W' → R (.returned v) W') → LeavesInM F n P fn tmps R (rs.map markD) .returning W
  | [], W, _, _, h => ⟨v, hres W, h W (Keep.refl _ _)⟩
  | r :: rs, W, hd, hr, h => by
    have hk : Keep (fun b => b = r) W (W.putObj r (.deferred none)) := ⟨rfl, rfl, rfl, by rw [World.putObj_size]; exact Nat.le_refl _, fun k _ hn => World.putObj_heap_other (fun e => hn e)⟩
    obtain ⟨d1, d2⟩ := List.nodup_cons.1 hd
    refine ⟨by simp, .inl ⟨r, _, rfl, run_takeDeferred (hr r (List.mem_cons_self ..)), ?_⟩⟩
    refine leaves_marks v hres rs _ d2 (fun r' h' => hk.heap (hr r' (List.mem_cons_of_mem _ h')) (fun e => d1 (e ▸ h'))) fun W' k' => h W' ?_
    exact hk.trans' k' (fun i _ e => e ▸ List.mem_cons_self ..) (fun i _ e => List.mem_cons_of_mem _ e)
end Go.Proofs.Ytgnigkghkldcfaa
