/-
  Ranging over a map with text keys: what is still to come, as a list. Over any program.
-/
import Derived.Test.YtlajejbglpggeaaBase0
import Derived.Maps.RangeWalk
namespace Go.Proofs.Ytlajejbglpggeaa
open Go.RowKit Go.Proofs Go.Lib Go.Maps

section
variable {P : Program} {kt : TypeId}

/-- A range over the map m at block mb, its state at block r: l is still to come. -/
def MRan (P : Program) (kt : TypeId) (w : World) (mb r : Nat) (m l : List (Bs × Value)) : Prop :=
  ∃ left cnt, w.ranges P kt heldR mb r m.length (entsD m) left cnt ∧ (∀ k, left (.string k) = (lk l k).isSome) ∧ (∀ kl, left kl = true → ∃ k, kl = .string k) ∧ (∀ e ∈ l, e ∈ m) ∧ Rising l ∧ Rising m

theorem MRan.map {w : World} {mb r : Nat} {m l : List (Bs × Value)} (h : MRan P kt w mb r m l) : MapP P kt w mb m := let ⟨_, _, h, _⟩ := h; h.owns
theorem MRan.ne {w : World} {mb r : Nat} {m l : List (Bs × Value)} (h : MRan P kt w mb r m l) : r ≠ mb := let ⟨_, _, h, _⟩ := h; h.ne
theorem MRan.lt {w : World} {mb r : Nat} {m l : List (Bs × Value)} (h : MRan P kt w mb r m l) : r < w.heap.size := let ⟨_, _, h, _⟩ := h; h.lt
theorem MRan.keep {F : Nat → Prop} {w w' : World} {mb r : Nat} {m l : List (Bs × Value)} (h : MRan P kt w mb r m l) (hk : Keep F w w') (h1 : ¬ F mb) (h2 : ¬ F r) : MRan P kt w' mb r m l := by
  obtain ⟨left, cnt, ⟨es, clock, since, seen, c0, hb, F', hs, hD, hr, rest⟩, x⟩ := h
  exact ⟨left, cnt, ⟨es, clock, since, seen, c0, hk.heap hb h1, F', hs, hD, hk.heap hr h2, rest⟩, x⟩

theorem keyOf_string_inv {k : TypeId} (hk : P.underlying k = some .string) {key : Value} {kl : Lit} (h : keyOf P k key = some kl) : ∃ s : ByteArray, key = .string s ∧ kl = .string s.data.toList := by
  cases key <;> simp [keyOf, hk, mapKey] at h
  obtain ⟨_, rfl⟩ := h
  exact ⟨_, rfl, rfl⟩

theorem MapP.range (hk : P.underlying kt = some .string) {t e : TypeId} (ht : P.underlying t = some (.map kt e)) {w : World} {mb : Nat} {m : List (Bs × Value)} (h : MapP P kt w mb m) (hr : Rising m) :
    ∃ w', (Instr.range t (.map (some mb))).run P w = .ok (.pointer (some ⟨w.heap.size, 0, none⟩)) w' ∧ MRan P kt w' mb w.heap.size m m ∧ Keep (fun _ => False) w w' ∧ w'.heap.size = w.heap.size + 1 := by
  obtain ⟨w', h1, h2, h3, h4⟩ := World.ownsMap.range h (string_keyed hk) ht
  refine ⟨w', h1, ⟨_, _, h2, fun k => entsD_has m k, fun kl hkl => ?_, fun e he => he, hr, hr⟩, (Keep.of_grownBy h3).mono (fun _ _ e => by simp at e), h4⟩
  unfold entsD Maps.has at hkl
  simp only [List.any_map, List.any_eq_true] at hkl
  obtain ⟨x, hx, he⟩ := hkl
  simp only [Function.comp, encE] at he
  cases kl <;> simp [Lit.sameKey] at he
  exact ⟨_, rfl⟩

theorem MRan.next (hk : P.underlying kt = some .string) {w : World} {mb r : Nat} {m l : List (Bs × Value)} (h : MRan P kt w mb r m l) :
    (l = [] ∧ ∀ ty, (Instr.next (.pointer (some ⟨r, 0, none⟩)) false ty).run P w = .ok (.tuple #[.bool false]) w) ∨
    ∃ k v w', lk l k = some v ∧ lk m k = some v ∧ (∀ ty, (Instr.next (.pointer (some ⟨r, 0, none⟩)) false ty).run P w = .ok (.tuple #[.bool true, strV k, v]) w') ∧ MRan P kt w' mb r m (delK k l) ∧ Keep (· = r) w w' ∧ w'.heap.size = w.heap.size ∧
      (Instr.entry (.pointer (some ⟨r, 0, none⟩))).run P w' = .ok (.tuple #[strV k, v]) w' := by
  obtain ⟨left, cnt, hR, hl1, hl2, hsub, hrl, hrm⟩ := h
  have all : ∀ ty, _ := fun ty => hR.next (string_keyed hk) ty
  rcases all 0 with ⟨h0, h1, _⟩ | ⟨key, v, kl, y, w', cnt', e1, e2, e3, e4, e5, e6, e7, e8, e9, e10⟩
  · left
    refine ⟨?_, fun ty => ?_⟩
    · cases l with
      | nil => rfl
      | cons e r' =>
        have := hl1 e.1
        rw [h1, lk_cons] at this
        simp at this
    · rcases all ty with ⟨_, _, h⟩ | ⟨key, v, kl, y, w', cnt', e1, e2, e3, e4, e5, e6, e7, e8, e9, e10⟩
      · exact h
      · rw [h1] at e2; cases e2
  · right
    obtain ⟨s, rfl, rfl⟩ := keyOf_string_inv hk e1
    have hv : y.1 = .held v := by
      unfold heldR at e3
      simp at e3
      rw [← e3]
    have hlk : ∃ u, lk l s.data.toList = some u := by
      rw [hl1] at e2
      exact Option.isSome_iff_exists.1 e2
    obtain ⟨u, hu⟩ := hlk
    have hmu := lk_of_mem hrm (hsub _ (lk_mem hu))
    have huv : u = v := by
      have := e4 (.held undef)
      rw [entsD_at, hmu, hv] at this
      simpa using this
    subst huv
    have hs : strV s.data.toList = .string s := by cases s; simp [strV]
    refine ⟨s.data.toList, u, w', hu, hmu, fun ty => ?_, ⟨_, _, e6, fun k => ?_, fun kl hkl => ?_, fun e he => hsub e (mem_delK.1 he).1, rising_delK hrl, hrm⟩, (Keep.of_grownBy e8).mono (fun _ _ e => by simpa using e.symm), e9, by rw [hs]; exact e10⟩
    · rw [hs]
      exact e5
    · rw [hl1]
      by_cases hks : k = s.data.toList
      · subst hks
        rw [lk_delK_same]
        simp [Lit.sameKey]
      · rw [lk_delK_other (fun e => hks e.symm)]
        have : (Lit.string k).sameKey (.string s.data.toList) = false := by simp [Lit.sameKey, hks]
        rw [this]; simp
    · rw [Bool.and_eq_true] at hkl
      exact hl2 kl hkl.1
end

/-- counting what is still to come -/
theorem count_delK {α : Type} {l : List (Bs × α)} (hr : Rising l) {k : Bs} {v : α} (hk : lk l k = some v) (p : Bs → Bool) :
    ((delK k l).filter (fun e => p e.1)).length + (if p k then 1 else 0) = (l.filter (fun e => p e.1)).length := by
  induction l with
  | nil => simp [lk] at hk
  | cons x l ih =>
    have hx : ∀ y ∈ l, y.1 ≠ x.1 := fun y hy => (before_ne ((List.pairwise_cons.1 hr).1 y hy)).symm
    rw [lk_cons] at hk
    by_cases h : (x.1 == k) = true
    · simp only [beq_iff_eq] at h
      subst h
      have e : delK x.1 (x :: l) = l := by
        unfold delK
        rw [List.filter_cons_of_neg (by simp)]
        exact delK_above hx
      rw [e]
      by_cases hp : p x.1 = true
      · rw [if_pos hp, List.filter_cons_of_pos (by simpa using hp)]; simp
      · rw [if_neg hp, List.filter_cons_of_neg (by simpa using hp)]; simp
    · rw [if_neg h] at hk
      have e : delK k (x :: l) = x :: delK k l := by
        unfold delK
        rw [List.filter_cons_of_pos (by simpa using h)]
      rw [e]
      have := ih (List.pairwise_cons.1 hr).2 hk
      by_cases hp : p x.1 = true
      · rw [List.filter_cons_of_pos (by simpa using hp), List.filter_cons_of_pos (by simpa using hp)]
        simp only [List.length_cons]; omega
      · rw [List.filter_cons_of_neg (by simpa using hp), List.filter_cons_of_neg (by simpa using hp)]
        exact this
theorem length_delK_lt {α : Type} {l : List (Bs × α)} (hr : Rising l) {k : Bs} {v : α} (hk : lk l k = some v) : (delK k l).length + 1 = l.length := by
  have := length_delK hr k
  rw [hk] at this
  simpa using this
end Go.Proofs.Ytlajejbglpggeaa
