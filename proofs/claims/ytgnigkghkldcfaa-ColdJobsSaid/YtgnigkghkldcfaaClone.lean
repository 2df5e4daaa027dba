/-
  slices.Clone of bytes, and of bools: a slice that reads the same, in new memory.
-/
import Derived.Test.YtgnigkghkldcfaaObj
import Derived.Laws.AppendOwnNone
namespace Go.Proofs.Ytgnigkghkldcfaa
open Go.RowKit Go.Proofs Go.Lib

theorem info_byte : (Try.prog.info? 5).map (fun i => (i.zero, i.size, i.bytes)) = some (some (.int .u8 0), 1, 1) := by kernel_rfl
theorem info_bool : (Try.prog.info? 4).map (fun i => (i.zero, i.size, i.bytes)) = some (some (.bool false), 1, 1) := by kernel_rfl

/-- A new slice that reads as xs; nothing that was there has turned. -/
def Fresh (k : Nat) (xs : List Value) (n : Nat) (w : World) (e : Ending) (w' : World) : Prop :=
  ∃ v, e = .returned v ∧ Sl w' k v n xs ∧ (∀ b, vblk v = some b → w.heap.size ≤ b) ∧ Below w.heap.size w w'

theorem bytesV_length (l : Bs) : (bytesV l).length = l.length * 1 := by simp [bytesV]
theorem bytesV_one (l : Bs) : ∀ u ∈ bytesV l, u.oneCell' = true := by intro u hu; simp [bytesV] at hu; obtain ⟨c, _, rfl⟩ := hu; rfl
theorem boolsV_one (l : List Bool) : ∀ u ∈ l.map Value.bool, u.oneCell' = true := by intro u hu; simp at hu; rcases hu with ⟨_, rfl⟩ | ⟨_, rfl⟩ <;> rfl

/-- what the append leaves, as the caller wants it -/
theorem fresh_of_append {k : Nat} {xs : List Value} {n : Nat} {w w1 : World} {t e : TypeId} {v' : Value} (hown : w1.ownsRow w.heap.size e k v' (0 + n) ([] ++ xs)) (hg : (w.alloc (.cells #[] t)).grownBy w1 (some w.heap.size)) :
    Sl w1 k v' n xs ∧ (∀ b, vblk v' = some b → w.heap.size ≤ b) ∧ Below w.heap.size w w1 := by
  rw [Nat.zero_add, List.nil_append] at hown
  obtain ⟨h1, h2⟩ := Sl.of_owns hown
  exact ⟨h1, h2, ((Below.refl _ w).alloc (Nat.le_refl _) _).grown hg (by simp) (fun k e => by cases e; exact Nat.le_refl _)⟩

/-- A new slice of bytes of the call's own. -/
def FreshB (l : Bs) (w : World) (e : Ending) (w' : World) : Prop := ∃ v, e = .returned v ∧ w'.ownsRow w.heap.size 5 1 v l.length (bytesV l) ∧ Below w.heap.size w w'

theorem fresh_own {k : Nat} {xs : List Value} {n : Nat} {w w1 : World} {t e : TypeId} {v' : Value} (hown : w1.ownsRow w.heap.size e k v' (0 + n) ([] ++ xs)) (hg : (w.alloc (.cells #[] t)).grownBy w1 (some w.heap.size)) :
    w1.ownsRow w.heap.size e k v' n xs ∧ Below w.heap.size w w1 := by
  rw [Nat.zero_add, List.nil_append] at hown
  exact ⟨hown, ((Below.refl _ w).alloc (Nat.le_refl _) _).grown hg (by simp) (fun k e => by cases e; exact Nat.le_refl _)⟩

theorem cloneB_own (w : World) (v : Value) (l : Bs) (hB : BytesAt w v l) (hl : l.length ≤ 140737488355328) :
    Calls Try.prog 76 #[v] w (FreshB l w) := by
  have q := Lib.run_eql_slice_nil (P := Try.prog)
  obtain ⟨i0, hi, hz0, hz1, hz2⟩ := info_parts info_byte
  obtain ⟨a, c, rfl⟩ : ∃ a c, v = .slice a l.length c := let ⟨_, a, c, e, _⟩ := hB; ⟨a, c, e⟩
  cases a with
  | none =>
    have h0 : l.length = 0 := by
      obtain ⟨_, a, c', e, h1, h2, h3, h4⟩ := hB
      cases e
      have := h3 rfl
      omega
    go_enter Try.func76, Try.ntmps76
    go_wp2
    go_ret
    exact ⟨_, rfl, by rw [h0, List.eq_nil_of_length_eq_zero h0]; exact World.ownsRow_nil _ _ _ _, Below.refl _ _⟩
  | some a =>
    have hcells := fun (j : Nat) (u : Value) (hu : (bytesV l)[j]? = some u) => (World.cell?_of_block (w' := w.alloc (.cells #[] 5)) (Below.heap_alloc _ _ _ (World.block_lt_of_cell? w _ (Sl.cells hB j u hu)))).trans (Sl.cells hB j u hu)
    have H := Lib.hid hB; clear hB
    have HC := Lib.hid hcells; clear hcells
    go_enter Try.func76, Try.ntmps76
    go_wp2_with (at_builtin; refine wpList_append_own _ rfl _ _ 36 rfl w.heap.size 5 i0 (.int .u8 0) 1 1 Try.underlying36 hi hz0 hz1 hz2 rfl (by decide) _ _ _ rfl (World.ownsRow_made w #[] 0 (Nat.le_refl _) (Nat.zero_le _) rfl) a l.length c (bytesV l) rfl (bytesV_length l) HC.out (bytesV_one l) (by unfold maxLen; omega) (by omega) (by simp) ?_; intro v' w1 hown hg hnil; have hr := fresh_own hown hg; clear hown hg)
    go_ret
    exact ⟨_, rfl, hr⟩

theorem cloneB_any (w : World) (v : Value) (l : Bs) (hB : BytesAt w v l) (hl : l.length ≤ 140737488355328) :
    Calls Try.prog 76 #[v] w (Fresh 1 (bytesV l) l.length w) := by
  refine (cloneB_own w v l hB hl).mono ?_
  rintro e w' ⟨v', rfl, ho, hb⟩
  obtain ⟨h1, h2⟩ := Sl.of_owns ho
  exact ⟨v', rfl, h1, h2, hb⟩

theorem cloneL_any (w : World) (v : Value) (l : List Bool) (hB : Sl w 1 v l.length (l.map .bool)) (hl : l.length ≤ 140737488355328) :
    Calls Try.prog 62 #[v] w (Fresh 1 (l.map .bool) l.length w) := by
  have q := Lib.run_eql_slice_nil (P := Try.prog)
  obtain ⟨i0, hi, hz0, hz1, hz2⟩ := info_parts info_bool
  obtain ⟨a, c, rfl⟩ : ∃ a c, v = .slice a l.length c := let ⟨_, a, c, e, _⟩ := hB; ⟨a, c, e⟩
  cases a with
  | none =>
    have h0 : l.length = 0 := by
      obtain ⟨_, a, c', e, h1, h2, h3, h4⟩ := hB
      cases e
      have := h3 rfl
      omega
    go_enter Try.func62, Try.ntmps62
    go_wp2
    go_ret
    exact ⟨_, rfl, by rw [h0, List.eq_nil_of_length_eq_zero h0]; exact Sl.nil _ _, fun b hb => by simp [vblk] at hb, Below.refl _ _⟩
  | some a =>
    have hcells := fun (j : Nat) (u : Value) (hu : (l.map Value.bool)[j]? = some u) => (World.cell?_of_block (w' := w.alloc (.cells #[] 4)) (Below.heap_alloc _ _ _ (World.block_lt_of_cell? w _ (Sl.cells hB j u hu)))).trans (Sl.cells hB j u hu)
    have H := Lib.hid hB; clear hB
    have HC := Lib.hid hcells; clear hcells
    go_enter Try.func62, Try.ntmps62
    go_wp2_with (at_builtin; refine wpList_append_own _ rfl _ _ 22 rfl w.heap.size 4 i0 (.bool false) 1 1 Try.underlying22 hi hz0 hz1 hz2 rfl (by decide) _ _ _ rfl (World.ownsRow_made w #[] 0 (Nat.le_refl _) (Nat.zero_le _) rfl) a l.length c (l.map .bool) rfl (by simp) HC.out (boolsV_one l) (by unfold maxLen; omega) (by omega) (by simp) ?_; intro v' w1 hown hg hnil; have hr := fresh_of_append hown hg; clear hown hg)
    go_ret
    exact ⟨_, rfl, hr⟩
end Go.Proofs.Ytgnigkghkldcfaa
