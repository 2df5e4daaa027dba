/-
  coldstoreref06: Size, Right, Find.
-/
import Derived.Test.YtlajejbglpggeaaRef6
import Derived.Test.YtlajejbglpggeaaPosLaw
import Derived.WalkLawsBesides
namespace Go.Proofs.Ytlajejbglpggeaa
open Go.RowKit Go.Proofs Go.Lib

theorem flat_th {L : List ((Bs × Bs) × Value)} {k : Nat} {p : (Bs × Bs) × Value} (h : L[k]? = some p) : (L.flatMap thCells)[k * 2]? = some (strV p.1.1) ∧ (L.flatMap thCells)[k * 2 + 1]? = some p.2 := by
  induction L generalizing k with
  | nil => simp at h
  | cons a r ih =>
    cases k with
    | zero => simp at h; subst h; simp [thCells]
    | succ k =>
      simp only [List.getElem?_cons_succ] at h
      have := ih h
      rw [show (k + 1) * 2 = k * 2 + 2 from by omega]
      simpa [thCells, Nat.add_assoc] using this
theorem flat_th_length (L : List ((Bs × Bs) × Value)) : (L.flatMap thCells).length = L.length * 2 := by
  induction L with
  | nil => rfl
  | cons a r ih => simp [thCells, ih]; omega

/-- the cells of thing k -/
theorem ThAt.cells {w : World} {b o n c : Nat} {L : List ((Bs × Bs) × Value)} (h : ThAt w (.slice (some ⟨b, o, none⟩) n c) L) {k : Nat} {p : (Bs × Bs) × Value} (hp : L[k]? = some p) :
    w.cell? ⟨b, o + k * 2, none⟩ = some (strV p.1.1) ∧ w.cell? ⟨b, o + k * 2 + 1, none⟩ = some p.2 := by
  obtain ⟨h1, a, c', e, _, _, _, h6⟩ := h.row
  simp only [Value.slice.injEq] at e
  obtain ⟨rfl, _, rfl⟩ := e
  have hk : k < L.length := (List.getElem?_eq_some_iff.1 hp).1
  obtain ⟨b', o', e2, h7⟩ := h6 (by omega)
  cases e2
  obtain ⟨f0, f1⟩ := flat_th hp
  refine ⟨?_, ?_⟩
  · rw [h7 _ (by omega), f0]
  · rw [Nat.add_assoc, h7 _ (by omega), f1]

theorem sizeR_snoc (l : List (Bs × Bs)) (e : Bs × Bs) : sizeR (l ++ [e]) = sizeR l + e.2.length := by
  induction l with
  | nil => simp [sizeR]
  | cons x r ih => rw [List.cons_append, sizeR_cons, sizeR_cons, ih]; omega
theorem sizeR_take_le (l : List (Bs × Bs)) (k : Nat) : sizeR (l.take k) ≤ sizeR l := by
  induction l generalizing k with
  | nil => simp
  | cons x r ih =>
    cases k with
    | zero => simp [sizeR]
    | succ k => rw [List.take_succ_cons, sizeR_cons, sizeR_cons]; have := ih k; omega

end Go.Proofs.Ytlajejbglpggeaa
