/-
  A row of the call's own behind an append; a block as a slice. Over any program.
-/
import Derived.Test.YtlajejbglpggeaaAppendL
import Derived.Test.YtlajejbglpggeaaRef6
import Derived.Lib.Hide
namespace Go.Proofs.Ytlajejbglpggeaa
open Go.RowKit Go.Proofs Go.Lib

theorem own_next {X Y W1 : World} {base : Nat} {e : TypeId} {size : Nat} {v0 v1 : Value} {n1 : Nat} {ys : List Value} (hXY : Keep (fun _ => False) X Y) (h0 : ∀ b, vblk v0 = some b → X.heap.size ≤ b) (hown : W1.ownsRow base e size v1 n1 ys)
    (hk : Keep (fun b => vblk v0 = some b) Y W1) (hb : ∀ b, vblk v1 = some b → vblk v0 = some b ∨ Y.heap.size ≤ b) :
    ∃ g c, v1 = .slice g n1 c ∧ Hid (W1.ownsRow base e size (.slice g n1 c) n1 ys) ∧ Hid (Keep (fun _ => False) X W1) ∧ Hid (∀ x, vblk (.slice g n1 c) = some x → X.heap.size ≤ x) ∧ X.heap.size ≤ W1.heap.size := by
  have hkk : Keep (fun _ => False) X W1 := hXY.trans' hk (fun _ _ e => e) (fun i hi e => by have := h0 i e; omega)
  obtain ⟨g, c, rfl⟩ : ∃ a c, v1 = .slice a n1 c := by
    rcases hown.2 with ⟨rfl, rfl⟩ | ⟨g, cap, cur, rfl, _⟩
    · exact ⟨_, _, rfl⟩
    · exact ⟨_, _, rfl⟩
  refine ⟨_, _, rfl, Lib.hid hown, Lib.hid hkk, Lib.hid (fun x e => ?_), hkk.size⟩
  rcases hb x e with h | h
  · exact h0 x h
  · have := hXY.size; omega

theorem sl_made (W : World) (k n : Nat) (cs : Array Value) (t : TypeId) (hn : cs.size = n * k) (hm : n ≤ maxLen) : Sl (W.alloc (.cells cs t)) k (.slice (some ⟨W.heap.size, 0, none⟩) n n) n cs.toList :=
  ⟨by simpa using hn, _, _, rfl, Nat.le_refl _, hm, (fun e => by cases e), fun _ => ⟨_, 0, rfl, fun j _ => by rw [cell_blk (alloc_new _ _), Nat.zero_add, Array.getElem?_toList]⟩⟩
end Go.Proofs.Ytlajejbglpggeaa
