/-
  string(b) of bytes that read as l; and Same of two such. No condition beyond that.
-/
import Derived.Test.YtlajejbglpggeaaObj0
import Derived.Laws.BytesArg
namespace Go.Proofs.Ytlajejbglpggeaa
open Go.RowKit Go.Proofs Go.Lib

theorem conv_text {P : Program} {t u e : TypeId} (ht : P.underlying t = some (.slice e)) (he : P.underlying e = some (.int .u8)) (hu : P.underlying u = some .string) {W : World} {v : Value} {l : Bs} (h : BytesAt W v l) :
    (convert t u v).run P W = .ok (strV l) W := by
  obtain ⟨a, c, rfl⟩ : ∃ a c, v = .slice a l.length c := let ⟨_, a, c, e, _⟩ := h; ⟨a, c, e⟩
  cases a with
  | none =>
    have h0 : l = [] := by
      obtain ⟨_, a, c', e, h1, h2, h3, h4⟩ := h
      cases e
      have := h3 rfl
      exact List.eq_nil_of_length_eq_zero (by omega)
    subst h0
    exact run_convert_bytes_nil W t e ht he _ _ u hu
  | some a =>
    have hv : (l.map fun c => (c.toNat : Int)).map (Value.int .u8) = bytesV l := by simp [bytesV]
    have hl : (loadCells a l.length).run P W = .ok (((l.map fun c => (c.toNat : Int)).map (Value.int .u8))).toArray W := by
      rw [hv]
      have := run_loadCells_list (P := P) W a (bytesV l) (fun j u hj => Sl.cells h j u hj)
      have e : (bytesV l).length = l.length := by simp [bytesV]
      rw [e] at this
      exact this
    rw [run_convert_bytes_string W t u e _ _ c ht he hu, run_bytesToString W _ _ c _ hl, foldl_push_bytes]
    have e2 : (l.map fun c => (c.toNat : Int)).map (fun n => UInt8.ofNat n.toNat) = l := by
      rw [List.map_map]
      have : ((fun n : Int => UInt8.ofNat n.toNat) ∘ fun c : UInt8 => (c.toNat : Int)) = id := by
        funext c; simp
      rw [this, List.map_id]
    rw [e2]
    simp [strV, ByteArray.empty, ByteArray.emptyWithCapacity]
    rfl

theorem conv_str {W : World} {v : Value} {l : Bs} (h : BytesAt W v l) : (convert 27 9 v).run Try.prog W = .ok (strV l) W := conv_text Try.underlying27 Try.underlying5 Try.underlying9 h

/-- 'append([]byte{}, b...)', of whatever bytes. -/
theorem wpList_append_fresh {W : World} {ops : Array Oper} {rest : List Oper} {o : Oper} {a : Act} {Q : Exit → Act → World → Prop} (hgd : o.guard = none) (s x : Operand)
    (ho : o.op = .call { callee := .builtin .append, args := #[s, x], argTypes := #[27, 27] }) (hs : a.eval s = .slice (some ⟨W.heap.size, 0, none⟩) 0 0) (v : Value) (hx : a.eval x = v) (l : Bs) (hB : BytesAt W v l) (hl : l.length ≤ 140737488355328)
    (h : ∀ v' W', W'.ownsRow W.heap.size 5 1 v' l.length (bytesV l) → Below W.heap.size W W' → wpList Try.prog ops Q rest (a.put o.dst v') W') : wpList Try.prog ops Q (o :: rest) a (W.alloc (.cells #[] 5)) := by
  obtain ⟨i0, hi, hz0, hz1, hz2⟩ := info_parts info_byte
  obtain ⟨p, c, rfl⟩ : ∃ a c, v = .slice a l.length c := let ⟨_, a, c, e, _⟩ := hB; ⟨a, c, e⟩
  cases p with
  | none =>
    have h0 : l = [] := by
      obtain ⟨_, a, c', e, h1, h2, h3, h4⟩ := hB
      cases e
      have := h3 rfl
      exact List.eq_nil_of_length_eq_zero (by omega)
    subst h0
    have hc0 : c = 0 := by
      obtain ⟨_, a, c', e, h1, h2, h3, h4⟩ := hB
      cases e
      exact h3 rfl
    subst hc0
    have hown := World.ownsRow_made (e := 5) (size := 1) W #[] 0 (Nat.le_refl _) (Nat.zero_le _) rfl
    refine wpList_append_own_none hgd s x 27 ho W.heap.size 5 i0 1 Try.underlying27 hi _ _ _ hs hown hx (h _ _ hown ?_)
    exact (Below.refl _ W).alloc (Nat.le_refl _) _
  | some p =>
    refine wpList_append_own _ hgd s x 27 ho W.heap.size 5 i0 (.int .u8 0) 1 1 Try.underlying27 hi hz0 hz1 hz2 rfl (by decide) _ _ _ hs (World.ownsRow_made W #[] 0 (Nat.le_refl _) (Nat.zero_le _) rfl) p l.length c (bytesV l) hx (bytesV_length l) (fun j u hu => (World.cell?_of_block (w' := W.alloc (.cells #[] 5)) (Below.heap_alloc _ _ _ (World.block_lt_of_cell? W _ (Sl.cells hB j u hu)))).trans (Sl.cells hB j u hu)) (bytesV_one l) (by unfold maxLen; omega) (by omega) (by simp) ?_
    intro v' w1 hown hg _
    obtain ⟨h1, h2⟩ := fresh_own hown hg
    exact h v' w1 h1 h2

end Go.Proofs.Ytlajejbglpggeaa
