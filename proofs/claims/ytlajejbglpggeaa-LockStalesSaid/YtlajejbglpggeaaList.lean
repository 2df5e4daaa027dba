/-
  object.List.
-/
import Derived.Test.YtlajejbglpggeaaAllIter
import Derived.Test.YtlajejbglpggeaaColl
namespace Go.Proofs.Ytlajejbglpggeaa
open Go.RowKit Go.Proofs Go.Lib Go.Maps Go.Shelf
attribute [local go_sem] Oper.semAt_some

theorem info_string : (Try.prog.info? 9).map (fun i => (i.zero, i.size, i.bytes)) = some (some (.string ⟨#[]⟩), 1, 16) := by kernel_rfl

def hasPre (s p : Bs) : Bool := Lib.hasPrefix s p
def OS.names (s : OS) (p : Bs) : List Bs := (s.row.map (·.1)).filter (fun x => hasPre x p)

theorem owns_putObj {w : World} {base : Nat} {e : TypeId} {k : Nat} {v : Value} {n : Nat} {xs : List Value} (h : w.ownsRow base e k v n xs) {l : Nat} {o : Obj} (hl : l < base) : (w.putObj l o).ownsRow base e k v n xs := by
  obtain ⟨h1, h2⟩ := h
  refine ⟨h1, ?_⟩
  rcases h2 with h2 | ⟨g, cap, cur, e1, hg, hh, r⟩
  · exact .inl h2
  · exact .inr ⟨g, cap, cur, e1, hg, (World.putObj_heap_other (by omega)).trans hh, r⟩

def ListPost (sb : Nat) (G : OG) (s : OS) (p : Bs) (w : World) (e : Ending) (w' : World) : Prop :=
  ∃ fv v, e = .returned (.tuple #[v, .int .i64 s.code]) ∧ ObjAt w' sb { G with faults := fv } s.op ∧ vblk fv = vblk G.faults ∧
    Sl w' 1 v (if s.code = 0 then s.names p else []).length ((if s.code = 0 then s.names p else []).map strV) ∧ (∀ x, vblk v = some x → w.heap.size ≤ x) ∧
    Keep (fun b => b = sb ∨ vblk G.fuse = some b) w w'

/-- between two rounds: the box holds what has been gathered -/
def ListI (p : Bs) (B : Nat) (w3 : World) (Pv : Nat → Prop) (pre : List (Bs × Nat)) (W : World) : Prop :=
  Keep (· = B) w3 W ∧ ∃ v, W.heap[B]? = some (.cells #[v] 75 (0, 0)) ∧ W.ownsRow (w3.heap.size + 2) 9 1 v ((pre.map (·.1)).filter (fun y => hasPre y p)).length (((pre.map (·.1)).filter (fun y => hasPre y p)).map strV) ∧ ∀ g, vblk v = some g → ¬ Pv g

set_option maxRecDepth 100000 in
set_option maxHeartbeats 2000000 in
theorem list_go (sb : Nat) (G : OG) (s : OS) (w : World) (hS : ObjAt w sb G s) (hl : s.left ≠ 0) (ho : s.ops < 4611686018427387904) (p : ByteArray) :
    Calls Try.prog 40 #[.pointer (some ⟨sb, 0, none⟩), .string p] w (ListPost sb G s p.data.toList w) := by
  refine (callsIn_wide (n := 9)).1 ?_
  have hS0 := hS.keep0 ((Keep.refl _ w).alloc (.cells #[.string p] 9))
  have HC := op_go sb G s (w.alloc (.cells #[.string p] 9)) hS0 hl ho
  have hsb := lt_blk hS.blk
  have hfu := hS.fuse_lt
  obtain ⟨C, hC⟩ : ∃ C, C = s.code := ⟨_, rfl⟩
  by_cases hc : s.code = 0
  · have hcc := Lib.hid hc
    have H3 := Lib.hid hC; clear hC hc hS hS0
    refine callsIn_of_wp_marks Try.func40 rfl trivial ?_ rfl
    simp only [Try.ntmps40, List.size_toArray, List.length_cons, List.length_nil, Nat.reduceAdd, Nat.reduceSub, Array.replicate_succ, Array.replicate_zero, List.push_toArray, List.append_toArray, List.nil_append, List.cons_append]
    gi_wp2_with fail
    refine ⟨trivial, ?_⟩
    refine (callsIn_wide.2 HC).mono ?_
    rintro e w1 ⟨fv, rfl, hO, hfv, hk1⟩
    rw [hcc.out]
    gi_wp2_with fail
    refine ⟨trivial, ?_⟩
    refine (callsIn_wide.2 (all_any sb _)).mono ?_
    rintro e w2 ⟨rfl, rfl⟩
    gi_wp2
    obtain ⟨w3, hw3⟩ : ∃ w3, (w1.alloc (.cells #[.slice none 0 0] 75)).alloc (.cells #[.pointer (some ⟨sb, 0, none⟩)] 28) = w3 := ⟨_, rfl⟩
    rw [hw3]
    have hz3 : w3.heap.size = w1.heap.size + 2 := by rw [← hw3]; simp
    have hk3 : Keep (fun _ => False) w1 w3 := by rw [← hw3]; exact ((Keep.refl _ w1).alloc _).alloc _
    have b0 : w3.heap[w1.heap.size]? = some (.cells #[.slice none 0 0] 75 (0, 0)) := by rw [← hw3]; exact alloc_blk (alloc_new _ _) _
    have b1 : w3.heap[w1.heap.size + 1]? = some (.cells #[.pointer (some ⟨sb, 0, none⟩)] 28 (0, 0)) := by
      have := alloc_new (w1.alloc (.cells #[.slice none 0 0] 75)) (.cells #[.pointer (some ⟨sb, 0, none⟩)] 28)
      rw [World.size_alloc] at this
      rw [← hw3]; exact this
    have hO3 := hO.keep0 hk3
    have hz1 : w.heap.size + 1 ≤ w1.heap.size := by have := hk1.size; simpa using this
    have hpb : w3.heap[w.heap.size]? = some (.cells #[.string p] 9 (0, 0)) := by
      refine hk3.heap (hk1.heap (alloc_new _ _) (fun e => ?_)) (fun e => e)
      rcases e with e | e
      · omega
      · have := hfu _ e; omega
    have hQ : ∀ k, (k = sb ∨ k = G.mb ∨ k = w1.heap.size + 1) → k < w3.heap.size := by
      rintro k (rfl | rfl | rfl)
      · exact lt_blk hO3.blk
      · exact MapP.lt hO3.map
      · omega
    obtain ⟨i0, hi, hz0, hzz1, hz2⟩ := info_parts info_string
    have hmany := hO.ok.many
    refine wp_range (gf := 67) (lb := #[.pointer (some ⟨w1.heap.size + 1, 0, none⟩)]) rfl (enters_of Try.func67 (by kernel_rfl) rfl) (encs := encN) (xs := s.list) (Qb := fun k => k = sb ∨ k = G.mb ∨ k = w1.heap.size + 1) hQ
      (fun W hb => all1_iter _ sb { G with faults := fv } s.op _ W (hO3.below hb) ((hb.block _ (by omega)).trans b1)) (fun _ => rfl)
      (ListI p.data.toList w1.heap.size w3)
      (fun _ _ _ => False) ?i0 ?ip (fun _ _ _ _ _ h _ => h.elim)
      (fun x => { tmps := #[.pointer (some ⟨sb, 0, none⟩), .string p, undef, .pointer (some ⟨w.heap.size, 0, none⟩), .slice none 0 0, .int .i64 0, .int .i64 0, .pointer (some ⟨w1.heap.size, 0, none⟩), strV x.1,
          .pointer (some ⟨sb, 0, none⟩), .int .i64 0, .int .i64 0, .bool false, undef, .pointer (some ⟨sb, 0, none⟩), .func (.func 67) #[] #[.pointer (some ⟨w1.heap.size + 1, 0, none⟩)], strV x.1, .int .i64 x.2,
          undef, undef, undef, undef, undef, undef, undef, undef], defers := [] }) ?assign ?body ?done (fun _ _ _ _ h _ => h.elim)
    case i0 =>
      intro W Pv hb hPv
      exact ⟨Keep.of_below hb _, .slice none 0 0, (hb.block _ (by omega)).trans b0, World.ownsRow_nil _ _ _ _, fun g e => by simp [vblk] at e⟩
    case ip =>
      rintro Pv pre W r o' ⟨hK, v, hbox, hown, hnp⟩ hl
      refine ⟨⟨hK.os, hK.tape, hK.output, by rw [World.putObj_size]; exact hK.size, fun k hk hn => (World.putObj_heap_other (by omega)).trans (hK.block k hk hn)⟩, v, (World.putObj_heap_other (by omega)).trans hbox, ?_, hnp⟩
      exact owns_putObj hown (by omega)
    case assign =>
      intro l x W K hK
      gi_wp2
      exact hK
    case body =>
      rintro l Pv pre x W rfl ⟨hK, v, hbox, hown, hnp⟩ hpre ⟨r, hl⟩ hD hP
      have hsz4 : w3.heap.size + 2 ≤ W.heap.size := by have := lt_blk hl; omega
      have cB : W.cell? ⟨w1.heap.size, 0, none⟩ = some v := by rw [cell_blk hbox]; rfl
      have fB : W.frozen? ⟨w1.heap.size, 0, none⟩ = false := frozen_blk hbox 0
      have cp : W.cell? ⟨w.heap.size, 0, none⟩ = some (.string p) := by rw [cell_blk (hK.heap hpb (by omega))]; rfl
      obtain ⟨a4, n4, c4, rfl⟩ : ∃ a n c, v = .slice a n c := by
        rcases hown.2 with ⟨e, _⟩ | ⟨g, cap, cur, e, _⟩
        · exact ⟨_, _, _, e⟩
        · exact ⟨_, _, _, e⟩
      have hlen : ((pre.map (·.1)).filter (fun y => hasPre y p.data.toList)).length < 4096 := by
        have h1 := List.length_filter_le (fun y => hasPre y p.data.toList) (pre.map (·.1))
        have h2 := hpre.length_le
        simp [OS.list] at h1 h2
        have h3 := hmany
        dsimp only [OS.op] at h3
        omega
      have hcons : ((pre ++ [x]).map (·.1)).filter (fun y => hasPre y p.data.toList) = (pre.map (·.1)).filter (fun y => hasPre y p.data.toList) ++ (if hasPre x.1 p.data.toList then [x.1] else []) := by
        rw [List.map_append, List.filter_append]
        congr 1
        cases hb : hasPre x.1 p.data.toList <;> simp [hb]
      have HC2 := Lib.hid hcons; clear hcons
      gi_wp2_with fail
      refine ⟨trivial, ?_⟩
      refine (CallsIn.inRound _ (callsIn_wide.2 (Try.strings_HasPrefix _ _ _))).mono ?_
      rintro e w' ⟨rfl, rfl⟩
      have ehp : Lib.hasPrefix (⟨x.1.toArray⟩ : ByteArray).data.toList p.data.toList = hasPre x.1 p.data.toList := rfl
      rw [ehp]
      cases hb : hasPre x.1 p.data.toList
      · have fin : ∀ a, rangePostA (fun k => k = w3.heap.size + 1 ∨ k = w3.heap.size ∨ Pv k ∨ k = sb ∨ k = G.mb ∨ k = w1.heap.size + 1) (ListI p.data.toList w1.heap.size w3 Pv) (fun _ _ _ => False) (pre ++ [x]) w' Exit.normal a w' := by
          intro a
          refine ⟨KeepB.refl _ _, hK, _, hbox, ?_, hnp⟩
          rw [HC2.out, hb]
          simp only [Bool.false_eq_true, if_false, List.append_nil]
          exact hown
        have HF := Lib.hid fin; clear fin hown
        gi_wp2
        exact HF.out _
      · have HZ := Lib.hid hz3; have HP := Lib.hid hP; clear hz3 hP
        gi_wp2_with (gi_at_builtin; go_loud (refine wpListIn_append_row _ rfl _ _ 75 rfl (w3.heap.size + 2) 9 i0 (.string ⟨#[]⟩) 1 16 Try.underlying75 hi hz0 hzz1 hz2 rfl (by decide) _ _ _ rfl (hown.alloc _) ⟨w'.heap.size, 0, none⟩ 1 1 [strV x.1] rfl rfl (cell_one_new _ _ _) (by simp [Value.oneCell']) (by unfold maxLen; omega) (by omega) (by simp; omega) (by decide) ?_); intro g cap w4 hown' hgrow hloc; have hst := coll_step hbox (by have := HZ.out; omega) hown hgrow hown' hloc; have cB4 := cell_blk hst.1 0; have fB4 := frozen_blk hst.1 0; simp at cB4)
        have hrow : ∀ g, vblk (.slice a4 n4 c4) = some g → w3.heap.size + 2 ≤ g := fun g e => (hown.lt g (by rw [vblk_own hown]; exact e)).1
        have hlt : ∀ k, (k = w3.heap.size + 1 ∨ k = w3.heap.size ∨ Pv k ∨ k = sb ∨ k = G.mb ∨ k = w1.heap.size + 1) → k < w'.heap.size ∧ ¬ (k = w1.heap.size ∨ vblk (.slice a4 n4 c4) = some k) := by
          intro k hk
          have z := HZ.out
          have hmb := MapP.lt hO.map
          dsimp only at hmb
          rcases hk with rfl | rfl | hk | rfl | rfl | rfl
          · exact ⟨by omega, fun e => e.elim (fun e => by omega) (fun e => by have := hrow _ e; omega)⟩
          · exact ⟨by omega, fun e => e.elim (fun e => by omega) (fun e => by have := hrow _ e; omega)⟩
          · have := HP.out k hk
            exact ⟨by omega, fun e => e.elim (fun e => by omega) (fun e => hnp _ e hk)⟩
          · exact ⟨by omega, fun e => e.elim (fun e => by omega) (fun e => by have := hrow _ e; omega)⟩
          · exact ⟨by omega, fun e => e.elim (fun e => by omega) (fun e => by have := hrow _ e; omega)⟩
          · exact ⟨by omega, fun e => e.elim (fun e => by omega) (fun e => by have := hrow _ e; omega)⟩
        refine ⟨KeepB.of_keep hst.2.2.2.1 hlt, ?_, _, hst.2.1, ?_, fun g' e hg' => ?_⟩
        · exact hK.trans' hst.2.2.2.1 (fun _ _ e => e) (fun i hi e => e.elim id (fun e => by have := hrow _ e; omega))
        · rw [HC2.out, hb]
          have := hst.2.2.1
          simp only [if_true, List.map_append, List.length_append]
          exact this
        · simp only [vblk, Option.some.injEq] at e
          subst e
          rcases hst.2.2.2.2 with e | e
          · exact hnp _ e hg'
          · have := HP.out _ hg'; omega
    case done =>
      rintro Pv W ⟨hK, v, hbox, hown, hnp⟩ hD
      have cB : W.cell? ⟨w1.heap.size, 0, none⟩ = some v := by rw [cell_blk hbox]; rfl
      obtain ⟨hsl, hbase⟩ := Sl.of_owns (owns_putObj (o := .deferred none) hown (l := w3.heap.size) (by omega))
      obtain ⟨a4, n4, c4, rfl⟩ : ∃ a n c, v = .slice a n c := let ⟨_, a, c, e, _⟩ := hsl; ⟨a, _, c, e⟩
      have hkW : Keep (fun _ => False) w1 (W.putObj w3.heap.size (.deferred none)) :=
        hk3.trans' (G := (· = w1.heap.size)) ⟨hK.os, hK.tape, hK.output, by rw [World.putObj_size]; exact hK.size, fun k hk hn => (World.putObj_heap_other (by omega)).trans (hK.block k hk hn)⟩ (fun _ _ e => e) (fun i hi e => by omega)
      have hnames : (s.list.map (·.1)).filter (fun y => hasPre y p.data.toList) = s.names p.data.toList := by
        unfold OS.names OS.list
        rw [List.map_map]; rfl
      have fin : ListPost sb G s p.data.toList w (.returned (.tuple #[.slice a4 n4 c4, .int .i64 0])) (W.putObj w3.heap.size (.deferred none)) := by
        refine ⟨fv, _, by rw [hcc.out], hO.keep0 hkW, hfv, ?_, fun x e => ?_, (((Keep.refl _ w).alloc _).trans hk1).trans (hkW.mono (fun _ _ e => e.elim))⟩
        · rw [if_pos hcc.out, ← hnames]; exact hsl
        · have := hbase x e; omega
      have HF := Lib.hid fin
      clear fin hown hsl hbase hnp hbox hkW hnames
      gi_wp2
      refine ⟨by simp, .inl ⟨_, _, rfl, run_takeDeferred hD, ?_⟩⟩
      exact ⟨_, results_tmp2 (t := 4) (u := 5) rfl _ _ _, HF.out⟩
  · have hnz : (C == 0) = false := by rw [hC]; simpa using hc
    have hcc := Lib.hid hc
    have H3 := Lib.hid hC; clear hC hc hS hS0
    refine callsIn_of_wp_marks Try.func40 rfl trivial ?_ rfl
    simp only [Try.ntmps40, List.size_toArray, List.length_cons, List.length_nil, Nat.reduceAdd, Nat.reduceSub, Array.replicate_succ, Array.replicate_zero, List.push_toArray, List.append_toArray, List.nil_append, List.cons_append]
    gi_wp2_with fail
    refine ⟨trivial, ?_⟩
    refine (callsIn_wide.2 HC).mono ?_
    rintro e w1 ⟨fv, rfl, hO, hfv, hk1⟩
    rw [← H3.out]
    have fin : ListPost sb G s p.data.toList w (.returned (.tuple #[.slice none 0 0, .int .i64 C])) w1 := by
      refine ⟨fv, _, by rw [H3.out], hO, hfv, ?_, fun x e => by simp [vblk] at e, ((Keep.refl _ w).alloc _).trans hk1⟩
      rw [if_neg hcc.out]; exact Sl.nil _ _
    have HF := Lib.hid fin
    clear fin hO hfv hk1
    gi_wp2
    exact ⟨_, results_tmp2 (t := 4) (u := 5) rfl _ _ _, HF.out⟩

theorem list_blow (sb : Nat) (G : OG) (s : OS) (w : World) (hS : ObjAt w sb G s) (hl : s.left = 0) (p : ByteArray) :
    ∃ fb, G.fuse = .pointer (some ⟨fb, 0, none⟩) ∧ Calls Try.prog 40 #[.pointer (some ⟨sb, 0, none⟩), .string p] w fun e w' => e = .panicked (blowChain fb) ∧ Keep (fun _ => False) w w' := by
  have hS0 := hS.keep0 ((Keep.refl _ w).alloc (.cells #[.string p] 9))
  obtain ⟨fb, hfb, hop⟩ := op_blow sb G s _ hS0 hl
  refine ⟨fb, hfb, ?_⟩
  clear hS hS0
  refine (callsIn_wide (n := 9)).1 ?_
  refine callsIn_of_wp_marks Try.func40 rfl trivial ?_ rfl
  simp only [Try.ntmps40, List.size_toArray, List.length_cons, List.length_nil, Nat.reduceAdd, Nat.reduceSub, Array.replicate_succ, Array.replicate_zero, List.push_toArray, List.append_toArray, List.nil_append, List.cons_append]
  gi_wp2_with fail
  refine ⟨trivial, ?_⟩
  refine (callsIn_wide.2 hop).mono ?_
  rintro e w1 ⟨rfl, rfl⟩
  exact ⟨rfl, (Keep.refl _ w).alloc _⟩
end Go.Proofs.Ytlajejbglpggeaa
