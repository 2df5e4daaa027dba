/-
  code.Writer and code.Reader: what each method does to the bytes written, and to those left.
-/
import Derived.Test.YtlajejbglpggeaaLe
import Derived.Test.YtlajejbglpggeaaOwnNext
import Derived.Test.YtlajejbglpggeaaObj0
namespace Go.Proofs.Ytlajejbglpggeaa
open Go.RowKit Go.Proofs Go.Lib

/-- a writer at block wb that has written l into a row of its own -/
def WrAt (w : World) (wb base : Nat) (l : Bs) : Prop := ∃ v, w.heap[wb]? = some (.cells #[v] 88 (0, 0)) ∧ w.ownsRow base 5 1 v l.length (bytesV l) ∧ (∀ x, vblk v = some x → x ≠ wb) ∧ base ≤ wb
/-- a reader at block rb that has l left -/
def RdAt (w : World) (rb : Nat) (l : Bs) : Prop := ∃ v, w.heap[rb]? = some (.cells #[v] 113 (0, 0)) ∧ BytesAt w v l ∧ (∀ x, 0 < l.length → vblk v = some x → x ≠ rb)

theorem WrAt.keep {F : Nat → Prop} {w w' : World} {wb base : Nat} {l : Bs} (h : WrAt w wb base l) (hk : Keep F w w') (hF : ∀ x, base ≤ x → ¬ F x) : WrAt w' wb base l := by
  obtain ⟨v, h1, h2, h3, h4⟩ := h
  refine ⟨v, hk.heap h1 (hF _ h4), ?_, h3, h4⟩
  obtain ⟨a, b⟩ := h2
  refine ⟨a, ?_⟩
  rcases b with b | ⟨g, cap, cur, rfl, hg, hh, r⟩
  · exact .inl b
  · exact .inr ⟨g, cap, cur, rfl, hg, hk.heap hh (hF _ hg), r⟩
theorem WrAt.new (w : World) : WrAt (w.alloc (.cells #[.slice none 0 0] 88)) w.heap.size w.heap.size [] :=
  ⟨_, alloc_new _ _, World.ownsRow_nil _ _ _ _, fun x e => by simp [vblk] at e, Nat.le_refl _⟩
theorem RdAt.keep {F : Nat → Prop} {w w' : World} {rb : Nat} {l : Bs} (h : RdAt w rb l) (hk : Keep F w w') (hF : ∀ x, F x → False) : RdAt w' rb l := by
  obtain ⟨v, h1, h2, h3⟩ := h
  exact ⟨v, hk.heap h1 (hF _), Sl.keep h2 hk (fun b _ _ e => hF b e), h3⟩

theorem held_cd (n : Int) (w : World) : Calls Try.prog 64 #[.int .i64 n] w fun e w' => e = .returned (.int .i64 (heldB n)) ∧ w = w' := by
  go_enter Try.func64, Try.ntmps64
  go_wp2
  go_ret
  exact ⟨rfl, rfl⟩

set_option maxRecDepth 100000 in
theorem wdone_any {w : World} {wb base : Nat} {l : Bs} (h : WrAt w wb base l) (hl : l.length ≤ 140737488355328) : Calls Try.prog 52 #[.pointer (some ⟨wb, 0, none⟩)] w (FreshB l w) := by
  obtain ⟨v, h1, h2, h3, h4⟩ := h
  have hc := cell_blk h1 0
  simp at hc
  have HC := Lib.hid (cloneB_own w v l (Sl.of_owns h2).1 hl)
  clear h1 h2 h3
  go_enter Try.func52, Try.ntmps52
  go_wp2_with fail
  refine HC.out.mono ?_
  rintro e w' ⟨v', rfl, h⟩
  have H := Lib.hid h
  clear h
  go_wp2
  go_ret
  exact ⟨_, rfl, H.out⟩

/-- what a writing method comes to -/
def WrPost (wb base : Nat) (l : Bs) (w : World) (e : Ending) (w' : World) : Prop := e = .returned (.tuple #[]) ∧ WrAt w' wb base l ∧ Keep (fun x => base ≤ x) w w'

set_option maxRecDepth 100000 in
theorem wraw_any {w : World} {wb base : Nat} {l : Bs} (h : WrAt w wb base l) (v2 : Value) (l2 : Bs) (h2 : BytesAt w v2 l2) (hl : l.length + l2.length ≤ 140737488355328) :
    Calls Try.prog 65 #[.pointer (some ⟨wb, 0, none⟩), v2] w (WrPost wb base (l ++ l2) w) := by
  obtain ⟨v, h1, ho, h3, h4⟩ := h
  obtain ⟨i0, hi, hz0, hz1, hz2⟩ := info_parts info_byte
  have hc := cell_blk h1 0
  simp at hc
  have H1 := Lib.hid h1; have HO := Lib.hid ho; have H2 := Lib.hid h2; have H3 := Lib.hid h3
  have hlt := lt_blk h1
  have N1 := Lib.hid (show l.length + l2.length ≤ maxLen by unfold maxLen; omega)
  have N2 := Lib.hid (show (l.length + l2.length) * 1 ≤ 140737488355328 by omega)
  have N3 := Lib.hid (show base ≤ w.heap.size by omega)
  clear h1 ho h2 h3 hl
  go_enter Try.func65, Try.ntmps65
  go_wp2_with (at_builtin; refine wpList_append_sl rfl (.tmp 8) (.tmp 9) 27 rfl base 5 i0 _ 1 1 Try.underlying27 hi hz0 hz1 hz2 rfl (by decide) v l.length (bytesV l) rfl HO.out _ l2.length (bytesV l2) rfl H2.out (bytesV_one l2) N1.out N2.out N3.out ?_; intro v' W' hown' hk' hb'; obtain ⟨va, vc, rfl⟩ := own_slice hown'; have hw' : W'.heap[wb]? = some (.cells #[v] 88 (0, 0)) := hk'.heap H1.out (fun e => H3.out wb e rfl); have c0 := cell_blk hw' 0; have f0 := frozen_blk hw' 0; simp at c0; have HW := Lib.hid hw'; have HO' := Lib.hid hown'; have HK' := Lib.hid hk'; have HB' := Lib.hid hb'; clear hw' hown' hk' hb')
  go_end0
  have hset := set_blk HW.out 0 (.slice va (l.length + l2.length) vc)
  simp at hset
  have hne : ∀ x, vblk (.slice va (l.length + l2.length) vc) = some x → x ≠ wb := fun x e => by
    rcases HB'.out x e with h | h
    · exact H3.out x h
    · omega
  refine ⟨rfl, ⟨_, hset, ?_, hne, h4⟩, ?_⟩
  · have ho := HO'.out
    have e1 : (l ++ l2).length = l.length + l2.length := by simp
    have e2 : bytesV (l ++ l2) = bytesV l ++ bytesV l2 := by simp [bytesV]
    rw [e1, e2]
    obtain ⟨a, b⟩ := ho
    refine ⟨a, ?_⟩
    rcases b with b | ⟨g, cap, cur, ev, hg, hh, r⟩
    · exact .inl b
    · exact .inr ⟨g, cap, cur, by assumption, hg, set_other hh (hne g (by simp_all [vblk])) _, r⟩
  · refine (HK'.out.mono (fun i _ e => ?_)).setCell (fun _ => h4) _
    exact (Sl.of_owns HO.out).2 i e
end Go.Proofs.Ytlajejbglpggeaa
