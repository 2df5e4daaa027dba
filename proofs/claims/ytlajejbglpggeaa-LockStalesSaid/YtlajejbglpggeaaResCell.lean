/-
  What a function comes to whose first result stands in a cell of its own. Over any program.
-/
import Derived.Test.YtlajejbglpggeaaBase0
import Derived.Laws.ResultCell
import Derived.Laws.Rows
namespace Go.Proofs.Ytlajejbglpggeaa
open Go.RowKit

section
variable {P : Program} {fn : Func} {p u x : Tmp} {ty : TypeId} (tmps : Array Value) (w : World) (g : Nat) (t : TypeId) (cs : Array Value) (fr : Nat × Nat) (d : TypeDesc)
    (hp : tmps.getD p undef = .pointer (some ⟨g, 0, none⟩)) (hg : w.heap[g]? = some (.cells cs t fr))
    (hu : P.underlying ty = some d) (hd : (match d with | .struct _ | .array _ _ => true | _ => false) = true) (hi : (P.info? ty).map (·.size) = some cs.size)
include hp hg hu hd hi
theorem results_cell1 (h : fn.results = #[.cell p ty]) : (results fn tmps).run P w = .ok (.agg cs) w := results_cell_row h tmps w g t cs fr d hp hg hu hd hi
theorem results_cell_tmp1 (h : fn.results = #[.cell p ty, .tmp u]) : (results fn tmps).run P w = .ok (.tuple #[.agg cs, tmps.getD u undef]) w := by
  have hp' : tmps[p]?.getD undef = .pointer (some ⟨g, 0, none⟩) := by simpa using hp
  simp [results, h, hp', asAddr, run_loadVar_row w g t ty cs fr d hg hu hd hi, Result.andThen]
theorem results_cell_tmp2 (h : fn.results = #[.cell p ty, .tmp u, .tmp x]) : (results fn tmps).run P w = .ok (.tuple #[.agg cs, tmps.getD u undef, tmps.getD x undef]) w := by
  have hp' : tmps[p]?.getD undef = .pointer (some ⟨g, 0, none⟩) := by simpa using hp
  simp [results, h, hp', asAddr, run_loadVar_row w g t ty cs fr d hg hu hd hi, Result.andThen]
end

/-- a struct of five cells laid over another one -/
theorem set_five {w : World} {b : Nat} {v0 v1 v2 v3 v4 : Value} {t : TypeId} {f : Nat × Nat} (h : w.heap[b]? = some (.cells #[v0, v1, v2, v3, v4] t f)) (x0 x1 x2 x3 x4 : Value) :
    (((((w.setCell ⟨b, 0, none⟩ x0).setCell ⟨b, 1, none⟩ x1).setCell ⟨b, 2, none⟩ x2).setCell ⟨b, 3, none⟩ x3).setCell ⟨b, 4, none⟩ x4).heap[b]? = some (.cells #[x0, x1, x2, x3, x4] t f) := by
  rw [set_blk (set_blk (set_blk (set_blk (set_blk h 0 _) 1 _) 2 _) 3 _) 4 _]
  simp
theorem five_cells {w : World} {b : Nat} {v0 v1 v2 v3 v4 : Value} {t : TypeId} (h : w.heap[b]? = some (.cells #[v0, v1, v2, v3, v4] t (0, 0))) :
    (w.cell? ⟨b, 0, none⟩ = some v0 ∧ w.cell? ⟨b, 1, none⟩ = some v1 ∧ w.cell? ⟨b, 2, none⟩ = some v2 ∧ w.cell? ⟨b, 3, none⟩ = some v3 ∧ w.cell? ⟨b, 4, none⟩ = some v4) ∧ ∀ i, w.frozen? ⟨b, i, none⟩ = false :=
  ⟨⟨by rw [cell_blk h]; rfl, by rw [cell_blk h]; rfl, by rw [cell_blk h]; rfl, by rw [cell_blk h]; rfl, by rw [cell_blk h]; rfl⟩, fun i => frozen_blk h i⟩
theorem set_five_keep {F : Nat → Prop} {w w' : World} {b : Nat} (h : Keep F w w') (hb : F b) (x0 x1 x2 x3 x4 : Value) :
    Keep F w (((((w'.setCell ⟨b, 0, none⟩ x0).setCell ⟨b, 1, none⟩ x1).setCell ⟨b, 2, none⟩ x2).setCell ⟨b, 3, none⟩ x3).setCell ⟨b, 4, none⟩ x4) :=
  ((((h.setCell (p := ⟨b, 0, none⟩) (fun _ => hb) _).setCell (p := ⟨b, 1, none⟩) (fun _ => hb) _).setCell (p := ⟨b, 2, none⟩) (fun _ => hb) _).setCell (p := ⟨b, 3, none⟩) (fun _ => hb) _).setCell (p := ⟨b, 4, none⟩) (fun _ => hb) _

theorem setRow_keep {F : Nat → Prop} {w : World} {g : Nat} (hg : F g) (cells : Array Value) : Keep F w (w.setRow g cells) :=
  ⟨rfl, rfl, rfl, by simp [World.setRow], fun k _ hn => by
    have : k ≠ g := fun e => hn (by rw [e]; exact hg)
    simp [World.setRow, Array.getElem?_modify, this.symm]⟩
theorem five_one (ra : Option Addr) (rn rc : Nat) (q o l : Int) (fa : Option Addr) (fn fc : Nat) : (#[.slice ra rn rc, .int .i64 q, .int .i64 o, .int .i64 l, .slice fa fn fc] : Array Value).all (·.oneCell') = true := by simp [Value.oneCell']
/-- a struct laid into a box: behind it the world is a letter -/
theorem wpList_store_box {P : Program} {ops : Array Oper} {rest : List Oper} {o : Oper} {a : Act} {w : World} {Q : Exit → Act → World → Prop} (hgd : o.guard = none) (ty : TypeId) (x y : Operand) (ho : o.op = .store ty x y)
    (g : Nat) (cells : Array Value) (hx : a.eval x = .pointer (some ⟨g, 0, none⟩)) (hy : a.eval y = .agg cells)
    {t : TypeId} {old : Array Value} (hg : w.heap[g]? = some (.cells old t (0, 0))) (hi : (P.info? ty).map (·.size) = some cells.size)
    (hold : old.size = cells.size) (h1 : cells.all (·.oneCell') = true)
    (h : ∀ W', W'.heap[g]? = some (.cells cells t (0, 0)) → Keep (· = g) w W' → wpList P ops Q rest (a.put o.dst undef) W') : wpList P ops Q (o :: rest) a w :=
  wpList_store_row hgd ty x y ho g cells hx hy t old hg hi hold h1 (h _ (by simp [World.setRow, Array.getElem?_modify, hg]) (setRow_keep (F := (· = g)) rfl cells))
end Go.Proofs.Ytlajejbglpggeaa
