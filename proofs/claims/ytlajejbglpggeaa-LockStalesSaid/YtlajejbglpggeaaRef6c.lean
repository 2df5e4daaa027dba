/-
  coldstoreref06: without, Put, Get, Drop, List.
-/
import Derived.Test.YtlajejbglpggeaaRef6b
import Derived.Test.YtlajejbglpggeaaAppendL
import Derived.Test.YtlajejbglpggeaaBegins
import Derived.Test.YtlajejbglpggeaaResCell
namespace Go.Proofs.Ytlajejbglpggeaa
open Go.RowKit Go.Proofs Go.Lib

theorem thCells_one (L : List ((Bs × Bs) × Value)) (h : ∀ p ∈ L, ∃ a n c, p.2 = .slice a n c) : ∀ u ∈ L.flatMap thCells, u.oneCell' = true := by
  intro u hu
  obtain ⟨p, hp, hu⟩ := List.mem_flatMap.1 hu
  simp only [thCells, List.mem_cons, List.not_mem_nil, or_false] at hu
  rcases hu with rfl | rfl
  · rfl
  · obtain ⟨a, n, c, e⟩ := h p hp
    rw [e]; rfl

/-- a part of a slice -/
theorem Sl.head {w : World} {k n m c : Nat} {a : Option Addr} {xs : List Value} (h : Sl w k (.slice a n c) n xs) (hm : m ≤ n) : Sl w k (.slice a m c) m (xs.take (m * k)) := by
  obtain ⟨h1, a', c', e, h2, h3, h4, h5⟩ := h
  simp only [Value.slice.injEq] at e
  obtain ⟨rfl, _, rfl⟩ := e
  have hmk : m * k ≤ n * k := Nat.mul_le_mul_right k hm
  refine ⟨by rw [List.length_take]; omega, _, c, rfl, by omega, h3, h4, fun hm0 => ?_⟩
  obtain ⟨b, o, e2, h6⟩ := h5 (by omega)
  refine ⟨b, o, e2, fun j hj => ?_⟩
  rw [h6 j (by omega), List.getElem?_take, if_pos hj]
theorem Sl.tail {w : World} {k n m c : Nat} {b o : Nat} {xs : List Value} (h : Sl w k (.slice (some ⟨b, o, none⟩) n c) n xs) (hm : m ≤ n) : Sl w k (.slice (some ⟨b, o + m * k, none⟩) (n - m) (c - m)) (n - m) (xs.drop (m * k)) := by
  obtain ⟨h1, a', c', e, h2, h3, h4, h5⟩ := h
  simp only [Value.slice.injEq] at e
  obtain ⟨rfl, _, rfl⟩ := e
  refine ⟨by rw [List.length_drop, h1, Nat.sub_mul], _, _, rfl, by omega, by omega, (fun e => by cases e), fun hn => ?_⟩
  obtain ⟨b', o', e2, h6⟩ := h5 (by omega)
  cases e2
  refine ⟨b, o + m * k, rfl, fun j hj => ?_⟩
  have : (n - m) * k = n * k - m * k := Nat.sub_mul _ _ _
  have h7 := h6 (m * k + j) (by omega)
  rw [Nat.add_assoc, h7, List.getElem?_drop]
theorem flat_take (L : List ((Bs × Bs) × Value)) : ∀ m : Nat, (L.flatMap thCells).take (m * 2) = (L.take m).flatMap thCells := by
  induction L with
  | nil => simp
  | cons a r ih =>
    intro m
    cases m with
    | zero => simp
    | succ m =>
      rw [show (m + 1) * 2 = m * 2 + 2 from by omega]
      simp [thCells, ← ih m, List.take_succ_cons]
theorem flat_drop (L : List ((Bs × Bs) × Value)) : ∀ m : Nat, (L.flatMap thCells).drop (m * 2) = (L.drop m).flatMap thCells := by
  induction L with
  | nil => simp
  | cons a r ih =>
    intro m
    cases m with
    | zero => simp
    | succ m =>
      rw [show (m + 1) * 2 = m * 2 + 2 from by omega]
      simp [thCells, ← ih m, List.drop_succ_cons]

end Go.Proofs.Ytlajejbglpggeaa
