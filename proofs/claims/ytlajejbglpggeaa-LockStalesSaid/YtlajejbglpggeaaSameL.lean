/-
  coldstoreref01.SameStrings, SameInts: of two slices that read as lists, whether these are the same.
-/
import Derived.Test.YtlajejbglpggeaaNames
import Derived.Deep.LoopGhost
import Derived.Deep.Light
import Derived.Deep.QuietTactic
import Derived.BigQuiet
namespace Go.Proofs.Ytlajejbglpggeaa
open Go.RowKit Go.Proofs Go.Lib

theorem take_all_eq {α : Type} [DecidableEq α] {a b : List α} {k : Nat} (hl : a.length = b.length) (hk : k = a.length) (h : a.take k = b.take k) : a = b := by
  rw [List.take_of_length_le (by omega), List.take_of_length_le (by omega)] at h
  exact h
theorem take_ne {α : Type} {a b : List α} {k : Nat} {x y : α} (hx : a[k]? = some x) (hy : b[k]? = some y) (hne : x ≠ y) : a ≠ b := by
  rintro rfl
  rw [hx] at hy; cases hy; exact hne rfl
theorem take_more {α : Type} {a b : List α} {k : Nat} {x : α} (hx : a[k]? = some x) (hy : b[k]? = some x) (h : a.take k = b.take k) : a.take (k + 1) = b.take (k + 1) := by
  rw [List.take_add_one, List.take_add_one, hx, hy, h]

/-- the cell of element k -/
theorem Sl.at1 {w : World} {b o n c : Nat} {xs : List Value} (h : Sl w 1 (.slice (some ⟨b, o, none⟩) n c) n xs) {k : Nat} {u : Value} (hu : xs[k]? = some u) : w.cell? ⟨b, o + k, none⟩ = some u := by
  have := Sl.cells h k u hu
  have e : (⟨b, o, none⟩ : Addr).add k = ⟨b, o + k, none⟩ := by unfold Addr.add; split <;> simp_all
  rw [e] at this
  exact this
theorem Sl.base {w : World} {k n : Nat} {v : Value} {xs : List Value} (h : Sl w k v n xs) (hn : 0 < n) : ∃ b o c, v = .slice (some ⟨b, o, none⟩) n c ∧ n ≤ c ∧ c ≤ maxLen := by
  obtain ⟨_, a, c, rfl, h2, h3, _, h6⟩ := h
  obtain ⟨b, o, rfl, _⟩ := h6 hn
  exact ⟨b, o, c, rfl, h2, h3⟩

end Go.Proofs.Ytlajejbglpggeaa
