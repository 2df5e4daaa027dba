/-
  A plain law: the names of a rising row are what the sort makes of them in whatever order. And the bytes' order is the lists' own.
-/
import Derived.Test.YtlajejbglpggeaaBase0
namespace Go.Proofs.Ytlajejbglpggeaa

theorem before_lt : ∀ (a b : Bs), bytesBefore a b = true ↔ a < b
  | [], [] => by simp [bytesBefore]
  | [], _ :: _ => by simp [bytesBefore]
  | _ :: _, [] => by simp [bytesBefore]
  | a :: r, b :: s => by
    rw [List.cons_lt_cons_iff, ← before_lt r s]
    simp [bytesBefore]

theorem names_sorted {α : Type} {m : List (Bs × α)} (h : Rising m) {ss : List Bs} (hp : ss.Perm (m.map (·.1))) : ss.mergeSort (fun x y => decide (x ≤ y)) = m.map (·.1) := by
  refine List.Perm.eq_of_pairwise (le := fun x y => x ≤ y) (fun a b _ _ h1 h2 => List.le_antisymm h1 h2) ?_ ?_ ((List.mergeSort_perm ss _).trans hp)
  · have := List.pairwise_mergeSort (le := fun x y : Bs => decide (x ≤ y)) (fun a b c h1 h2 => by simp only [decide_eq_true_eq] at *; exact List.le_trans h1 h2) (fun a b => by simp only [Bool.or_eq_true, decide_eq_true_eq]; exact List.le_total a b) ss
    exact this.imp (fun h => by simpa using h)
  · rw [List.pairwise_map]
    refine h.imp (fun {a b} hab => ?_)
    have := (before_lt _ _).1 hab
    exact List.le_of_lt this
end Go.Proofs.Ytlajejbglpggeaa
