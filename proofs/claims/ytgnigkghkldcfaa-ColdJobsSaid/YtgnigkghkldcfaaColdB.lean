/-
  cold: Get.
-/
import Derived.Test.YtgnigkghkldcfaaColdA
import Derived.Test.YtgnigkghkldcfaaResCell

/-! cold: Get. -/
namespace Go.Proofs.Ytgnigkghkldcfaa
open Go.RowKit Go.Proofs Go.Lib

def CS.getCode (c : CS) (nm : Bs) (now : Int) : Int := if c.o.getCode nm = 0 then (if c.state nm now = 2 then 0 else 32) else c.o.getCode nm
def CS.getBytes (c : CS) (nm : Bs) (now : Int) : Bs := if c.getCode nm now = 0 then c.o.getBytes nm else []

def CGetPost (cb sb mb : Nat) (f : Value) (S : Nat → Prop) (c : CS) (nm : Bs) (now : Int) (w : World) (e : Ending) (w' : World) : Prop :=
  ∃ v, e = .returned (.tuple #[v, .int .i64 (c.getCode nm now)]) ∧ ColdAt w' cb sb mb f S { c with o := c.o.op } ∧ Keep S w w' ∧ BytesAt w' v (c.getBytes nm now) ∧ ∀ x, vblk v = some x → w.heap.size ≤ x

set_option maxRecDepth 100000 in
theorem cget_any {w : World} {cb sb mb : Nat} {f : Value} {S : Nat → Prop} {c : CS} (h : ColdAt w cb sb mb f S c) (hl : c.o.left ≠ 0) (ho : c.o.ops < 4611686018427387904) (nm : ByteArray) (hnm : nm.size ≤ maxLen) (now : Int) (hn : -9223372036854775808 ≤ now ∧ now ≤ 9223372036854775807) :
    Calls Try.prog 48 #[.pointer (some ⟨cb, 0, none⟩), .string nm, .int .i64 now] w (CGetPost cb sb mb f S c nm.data.toList now w) := by
  have c0 : w.cell? ⟨cb, 0, none⟩ = some (.pointer (some ⟨sb, 0, none⟩)) := by rw [cell_blk h.blk]; rfl
  have HP := Lib.hid (h.st.get hl ho nm hnm)
  have H := Lib.hid h
  obtain ⟨code, hcode⟩ : ∃ k, k = c.o.getCode nm.data.toList := ⟨_, rfl⟩
  have HCO := Lib.hid hcode
  have hfin : ∀ (v : Value) (k : Int) (b : Bs) (w' : World), k = c.getCode nm.data.toList now → b = c.getBytes nm.data.toList now → ColdAt w' cb sb mb f S { c with o := c.o.op } → Keep S w w' → BytesAt w' v b → (∀ x, vblk v = some x → w.heap.size ≤ x) → CGetPost cb sb mb f S c nm.data.toList now w (.returned (.tuple #[v, .int .i64 k])) w' :=
    fun _ _ _ _ h1 h2 h3 h4 h5 h6 => ⟨_, by rw [h1], h3, h4, by rw [← h2]; exact h5, h6⟩
  have HF := Lib.hid hfin
  clear hfin h
  by_cases hc : code = 0
  · obtain ⟨st, hst⟩ : ∃ k, k = c.state nm.data.toList now := ⟨_, rfl⟩
    have HST := Lib.hid hst
    have hg : c.getCode nm.data.toList now = if st = 2 then 0 else 32 := by unfold CS.getCode; rw [if_pos (by rw [← hcode]; exact hc), hst]
    have HG := Lib.hid hg
    clear hcode hst hg
    subst hc
    by_cases hs : st = 2
    · have hgb : c.getBytes nm.data.toList now = c.o.getBytes nm.data.toList := by unfold CS.getBytes; rw [if_pos (by rw [HG.out, if_pos hs])]
      have HGB := Lib.hid hgb; clear hgb
      subst hs
      go_enter Try.func48, Try.ntmps48
      go_wp2_with fail
      refine HP.out.mono ?_
      rintro e W1 ⟨v, rfl, h1, t1, ho1⟩
      rw [← HCO.out]
      obtain ⟨va, vc, rfl⟩ := own_slice ho1
      have HJ := Lib.hid (H.out.turn h1 t1); have HT := Lib.hid t1; have HO := Lib.hid ho1
      clear h1 t1 ho1
      go_wp2_with fail
      refine (cstate_any HJ.out nm hnm now hn).mono ?_
      rintro e W2 ⟨rfl, k2⟩
      rw [show ({ c with o := c.o.op } : CS).state nm.data.toList now = 2 from HST.out.symm]
      have HK := Lib.hid k2; clear k2
      go_wp2
      go_ret2
      exact HF.out _ _ _ _ (by rw [HG.out]; rfl) HGB.out.symm (HJ.out.keep0 HK.out) (HT.out.keep.trans (HK.out.mono (fun _ _ e => e.elim))) (Sl.of_owns (own_keep HO.out HK.out (fun _ _ e => e))).1 (fun x e => (own_lt HO.out x e).1)
    · have hgb : c.getBytes nm.data.toList now = [] := by unfold CS.getBytes; rw [if_neg (by rw [HG.out, if_neg hs]; decide)]
      have HGB := Lib.hid hgb; clear hgb
      have hsb : (st == 2) = false := by simpa using hs
      have HG2 := Lib.hid (show (32 : Int) = c.getCode nm.data.toList now by rw [HG.out, if_neg hs])
      clear hs
      go_enter Try.func48, Try.ntmps48
      go_wp2_with fail
      refine HP.out.mono ?_
      rintro e W1 ⟨v, rfl, h1, t1, ho1⟩
      rw [← HCO.out]
      obtain ⟨va, vc, rfl⟩ := own_slice ho1
      have HJ := Lib.hid (H.out.turn h1 t1); have HT := Lib.hid t1
      clear h1 t1 ho1
      go_wp2_with fail
      refine (cstate_any HJ.out nm hnm now hn).mono ?_
      rintro e W2 ⟨rfl, k2⟩
      rw [show ({ c with o := c.o.op } : CS).state nm.data.toList now = st from HST.out.symm]
      have HK := Lib.hid k2; clear k2
      go_wp2
      go_ret2
      exact HF.out _ _ _ _ HG2.out HGB.out.symm (HJ.out.keep0 HK.out) (HT.out.keep.trans (HK.out.mono (fun _ _ e => e.elim))) (Sl.nil _ _) (fun x e => by simp [vblk] at e)
  · have hg : code = c.getCode nm.data.toList now := by unfold CS.getCode; rw [if_neg (by rw [← hcode]; exact hc), hcode]
    have hgb : c.getBytes nm.data.toList now = [] := by unfold CS.getBytes; rw [if_neg (by rw [← hg]; exact hc)]
    have HG := Lib.hid hg; have HGB := Lib.hid hgb
    have hcb : (code == 0) = false := by simpa using hc
    clear hcode hg hgb hc
    go_enter Try.func48, Try.ntmps48
    go_wp2_with fail
    refine HP.out.mono ?_
    rintro e W1 ⟨v, rfl, h1, t1, ho1⟩
    rw [← HCO.out]
    obtain ⟨va, vc, rfl⟩ := own_slice ho1
    have HJ := Lib.hid (H.out.turn h1 t1); have HT := Lib.hid t1
    clear h1 t1 ho1
    go_wp2
    go_ret2
    exact HF.out _ _ _ _ HG.out HGB.out.symm HJ.out HT.out.keep (Sl.nil _ _) (fun x e => by simp [vblk] at e)
end Go.Proofs.Ytgnigkghkldcfaa

/-! cold: there. -/
namespace Go.Proofs.Ytgnigkghkldcfaa
open Go.RowKit Go.Proofs Go.Lib

theorem two_one (x y : Int) : (#[.int .i64 x, .int .i64 y] : Array Value).all (·.oneCell') = true := by simp [Value.oneCell']

set_option maxRecDepth 100000 in
theorem there_any {w : World} {cb sb mb : Nat} {f : Value} {S : Nat → Prop} {c : CS} (h : ColdAt w cb sb mb f S c) (hl : c.o.left ≠ 0) (ho : c.o.ops < 4611686018427387904) (nm : ByteArray) (hnm : nm.size ≤ maxLen) :
    Calls Try.prog 82 #[.pointer (some ⟨cb, 0, none⟩), .string nm] w fun e w' => e = .returned (.tuple #[noteV (if c.o.getCode nm.data.toList = 0 then (lk c.notes nm.data.toList).getD (0, 0) else (0, 0)), .int .i64 (c.o.getCode nm.data.toList)]) ∧ ColdAt w' cb sb mb f S { c with o := c.o.op } ∧ Keep S w w' := by
  have ka : Keep (fun _ => False) w (w.alloc (.cells #[.int .i64 0, .int .i64 0] 146)) := (Keep.refl _ _).alloc _
  have h0 := h.keep0 ka
  have hz := h.lt
  have hsl := h.st.lt
  have hb0 := alloc_new w (.cells #[.int .i64 0, .int .i64 0] 146)
  have c0 : (w.alloc (.cells #[.int .i64 0, .int .i64 0] 146)).cell? ⟨cb, 0, none⟩ = some (.pointer (some ⟨sb, 0, none⟩)) := by rw [cell_blk h0.blk]; rfl
  have HP := Lib.hid (h0.st.get hl ho nm hnm)
  have H := Lib.hid h0
  have hns : ¬ S w.heap.size := fun e => by have := hsl _ e; omega
  obtain ⟨code, hcode⟩ : ∃ k, k = c.o.getCode nm.data.toList := ⟨_, rfl⟩
  have HCO := Lib.hid hcode
  have HB := Lib.hid hb0; have HKA := Lib.hid ka; have HNS := Lib.hid hns
  rw [← hcode]
  have hfin : ∀ (W1 W9 : World) (_ : Keep S (w.alloc (.cells #[.int .i64 0, .int .i64 0] 146)) W1) (_ : ColdAt W1 cb sb mb f S { c with o := c.o.op }) (_ : Keep (· = w.heap.size) W1 W9), ColdAt W9 cb sb mb f S { c with o := c.o.op } ∧ Keep S w W9 := fun W1 W9 k1 j k9 =>
    ⟨j.keep k9 (fun x e => by rw [e]; exact ⟨hns, by omega, by omega⟩), ((ka.mono (fun _ _ e => e.elim)).trans k1).trans' k9 (fun _ _ e => e) (fun i hi e => by omega)⟩
  have HF := Lib.hid hfin
  clear h h0 ka hb0 hsl hns hfin hcode
  by_cases hc : code = 0
  · subst hc
    obtain ⟨n, hn⟩ : ∃ n, n = (lk c.notes nm.data.toList).getD (0, 0) := ⟨_, rfl⟩
    rw [if_pos rfl, ← hn]
    have HN := Lib.hid hn; clear hn
    obtain ⟨born, done⟩ := n
    unfold noteV
    dsimp only
    go_enter Try.func82, Try.ntmps82
    go_wp2_with fail
    refine HP.out.mono ?_
    rintro e W1 ⟨v, rfl, h1, t1, ho1⟩
    rw [← HCO.out]
    obtain ⟨va, vc, rfl⟩ := own_slice ho1
    have j1 := H.out.turn h1 t1
    have b1 := t1.keep.heap HB.out HNS.out
    have d1 : W1.cell? ⟨cb, 1, none⟩ = some (.map (some mb)) := by rw [cell_blk j1.blk]; rfl
    have hlk0 := MapP.look Try.underlying9 Try.underlying74 j1.map nm hnm (zero_note W1)
    have hv : ((lk (mapV noteV c.notes) nm.data.toList).getD (.agg #[.int .i64 0, .int .i64 0])) = .agg #[.int .i64 born, .int .i64 done] := by
      have := HN.out
      rw [lk_mapV]
      cases hl : lk c.notes nm.data.toList with
      | none => rw [hl] at this; simp at this; rw [this.1, this.2]; rfl
      | some m => rw [hl] at this; simp at this; rw [← this]; rfl
    have hlk : (Instr.lookup 74 (.map (some mb)) (.string nm) false).run Try.prog W1 = .ok (.agg #[.int .i64 born, .int .i64 done]) W1 := by rw [← hv]; exact hlk0
    have HB1 := Lib.hid b1; have HJ := Lib.hid j1; have HT := Lib.hid t1.keep
    clear h1 t1 ho1 j1 b1 hv hlk0
    go_wp2_with (refine wpList_store_box rfl 146 (.tmp 4) (.tmp 26) rfl w.heap.size #[.int .i64 born, .int .i64 done] (by rfl) (by rfl) HB1.out (by kernel_rfl) rfl (two_one _ _) ?_; intro W9 hA9 kA9)
    refine bodyPost_ret (results_cell_tmp1 _ _ _ _ _ _ _ (by rfl) hA9 Try.underlying146 rfl (by kernel_rfl) rfl) rfl ?_
    exact ⟨rfl, HF.out W1 W9 HT.out HJ.out kA9⟩
  · rw [if_neg hc]
    have hcb : (code == 0) = false := by simpa using hc
    clear hc
    unfold noteV
    dsimp only
    go_enter Try.func82, Try.ntmps82
    go_wp2_with fail
    refine HP.out.mono ?_
    rintro e W1 ⟨v, rfl, h1, t1, ho1⟩
    rw [← HCO.out]
    obtain ⟨va, vc, rfl⟩ := own_slice ho1
    have j1 := H.out.turn h1 t1
    have b1 := t1.keep.heap HB.out HNS.out
    have HB1 := Lib.hid b1; have HJ := Lib.hid j1; have HT := Lib.hid t1.keep
    clear h1 t1 ho1 j1 b1
    go_wp2_with (refine wpList_store_box rfl 146 (.tmp 4) (.tmp 19) rfl w.heap.size #[.int .i64 0, .int .i64 0] (by rfl) (by rfl) HB1.out (by kernel_rfl) rfl (two_one _ _) ?_; intro W9 hA9 kA9)
    refine bodyPost_ret (results_cell_tmp1 _ _ _ _ _ _ _ (by rfl) hA9 Try.underlying146 rfl (by kernel_rfl) rfl) rfl ?_
    exact ⟨rfl, HF.out W1 W9 HT.out HJ.out kA9⟩
end Go.Proofs.Ytgnigkghkldcfaa

/-! cold: New. -/
namespace Go.Proofs.Ytgnigkghkldcfaa
open Go.RowKit Go.Proofs Go.Lib

def CS.new (quota jobs life least : Int) : CS := { o := .new quota, notes := [], jobs := jobs, life := life, least := least, lost := 0 }

def CNewPost (quota jobs life least : Int) (w : World) (e : Ending) (w' : World) : Prop :=
  ∃ (cb sb mb : Nat) (S : Nat → Prop), e = .returned (.tuple #[.pointer (some ⟨cb, 0, none⟩), .int .i64 0]) ∧ ColdAt w' cb sb mb (.pointer none) S (CS.new quota jobs life least) ∧ Keep (fun _ => False) w w' ∧ (∀ x, S x → w.heap.size ≤ x) ∧ w.heap.size ≤ cb ∧ w.heap.size ≤ mb

set_option maxRecDepth 100000 in
theorem cnew_any (quota jobs life least : Int) (w : World) (hq : 0 ≤ quota ∧ quota ≤ 9223372036854775807) (hj : 1 ≤ jobs ∧ jobs ≤ 64) (hl : 1 ≤ life ∧ life ≤ 1125899906842624) (he : 0 ≤ least ∧ least ≤ 1125899906842624) :
    Calls Try.prog 43 #[.int .i64 quota, .int .i64 jobs, .int .i64 life, .int .i64 least] w (CNewPost quota jobs life least w) := by
  obtain ⟨hj1, hj2⟩ := hj; obtain ⟨hl1, hl2⟩ := hl; obtain ⟨he1, he2⟩ := he
  have HN := Lib.hid (new_any quota w hq.1 hq.2)
  have hmk := run_makeMap_all 74
  clear hq
  go_enter Try.func43, Try.ntmps43
  go_wp2_with fail
  refine HN.out.mono ?_
  rintro e W1 ⟨sb, rfl, h1, k1⟩
  have hfin : CNewPost quota jobs life least w (.returned (.tuple #[.pointer (some ⟨W1.heap.size + 1, 0, none⟩), .int .i64 0])) ((W1.alloc (.map #[] 0)).alloc (.cells #[.pointer (some ⟨sb, 0, none⟩), .map (some W1.heap.size), .int .i64 jobs, .int .i64 life, .int .i64 least, .int .i64 0] 76)) := by
    have ka : Keep (fun _ => False) W1 ((W1.alloc (.map #[] 0)).alloc (.cells #[.pointer (some ⟨sb, 0, none⟩), .map (some W1.heap.size), .int .i64 jobs, .int .i64 life, .int .i64 least, .int .i64 0] 76)) := ((Keep.refl _ _).alloc _).alloc _
    have hb := alloc_new (W1.alloc (.map #[] 0)) (.cells #[.pointer (some ⟨sb, 0, none⟩), .map (some W1.heap.size), .int .i64 jobs, .int .i64 life, .int .i64 least, .int .i64 0] 76)
    rw [World.size_alloc] at hb
    have hz := k1.size
    refine ⟨W1.heap.size + 1, sb, W1.heap.size, _, rfl, ⟨hb, h1.keep0 ka, MapP.keep (F := fun _ => False) (MapP.made W1) ((Keep.refl _ _).alloc _) id, fun e => by have := e.2; omega, fun e => by have := e.2; omega, ⟨List.Pairwise.nil, fun _ h => (nomatch h), ⟨hj1, hj2⟩, ⟨hl1, hl2⟩, ⟨he1, he2⟩, ?_, Nat.zero_le _⟩⟩, k1.trans ka, fun x e => e.1, by omega, hz⟩
    show (0 : Int) ≤ 0 ∧ (0 : Int) ≤ 4611686018427387904
    omega
  have HF := Lib.hid hfin
  clear hfin h1 k1
  go_wp2
  go_ret2
  exact HF.out
end Go.Proofs.Ytgnigkghkldcfaa

/-! cold: Drop. -/
namespace Go.Proofs.Ytgnigkghkldcfaa
open Go.RowKit Go.Proofs Go.Lib

/-- is a thing young, so that it goes by force alone? -/
def CS.young (c : CS) (nm : Bs) (t : Int) : Bool := match lk c.notes nm with | none => false | some n => decide (0 < youngT c.least n.1 t)
def CS.dropCode (c : CS) (nm : Bs) (now : Int) (force : Bool) : Int := if c.o.getCode nm = 0 ∧ (!force && c.young nm (heldT now)) = true then 40 else c.o.getCode nm
def CS.drop (c : CS) (nm : Bs) (now : Int) (force : Bool) : CS :=
  if (!force && c.young nm (heldT now)) = true then { c with o := c.o.op } else if c.o.getCode nm = 0 then ({ c with o := c.o.drop nm } : CS).gone nm (heldT now) else { c with o := c.o.drop nm }

/-- behind the question whether it is young: the operation itself -/
theorem cdrop_young {w : World} {cb sb mb : Nat} {f : Value} {S : Nat → Prop} {c : CS} (h : ColdAt w cb sb mb f S c) (hl : c.o.left ≠ 0) (ho : c.o.ops < 4611686018427387904) (nm : ByteArray) (hnm : nm.size ≤ maxLen) (now : Int) (hn : -9223372036854775808 ≤ now ∧ now ≤ 9223372036854775807)
    (hy : c.young nm.data.toList (heldT now) = true) :
    Calls Try.prog 45 #[.pointer (some ⟨cb, 0, none⟩), .string nm, .int .i64 now, .bool false] w fun e w' => e = .returned (.int .i64 (c.dropCode nm.data.toList now false)) ∧ ColdPost cb sb mb f S (c.drop nm.data.toList now false) w w' := by
  have c1 : w.cell? ⟨cb, 1, none⟩ = some (.map (some mb)) := by rw [cell_blk h.blk]; rfl
  have hlk := MapP.look_ok Try.underlying9 Try.underlying74 h.map nm hnm (zero_note w)
  rw [lk_mapV] at hlk
  unfold CS.young at hy
  cases hln : lk c.notes nm.data.toList with
  | none => rw [hln] at hy; cases hy
  | some n =>
    rw [hln] at hlk hy
    simp only [Option.map_some, Option.getD_some, Option.isSome_some, noteV] at hlk
    obtain ⟨born, done⟩ := n
    dsimp only at hlk hy
    have hyT : (!false && c.young nm.data.toList (heldT now)) = true := by unfold CS.young; rw [hln]; exact hy
    have hd : c.drop nm.data.toList now false = { c with o := c.o.op } := by unfold CS.drop; rw [if_pos hyT]
    rw [hd]
    obtain ⟨code, hcode⟩ : ∃ k, k = c.o.getCode nm.data.toList := ⟨_, rfl⟩
    have hdc : c.dropCode nm.data.toList now false = if code = 0 then 40 else code := by
      unfold CS.dropCode
      rw [← hcode]
      by_cases hc : code = 0
      · rw [if_pos ⟨hc, hyT⟩, if_pos hc]
      · rw [if_neg (fun e => hc e.1), if_neg hc]
    rw [hdc]
    have ka : Keep (fun _ => False) w (w.alloc (.cells #[.int .i64 born, .int .i64 done] 146)) := (Keep.refl _ _).alloc _
    obtain ⟨Y, hY⟩ : ∃ Y, Y = youngT c.least born (heldT now) := ⟨_, rfl⟩
    obtain ⟨T, hT⟩ : ∃ T, T = heldT now := ⟨_, rfl⟩
    rw [← hY] at hy
    have hy1 : 0 < Y := by simpa using hy
    have HD := Lib.hid (show Calls Try.prog 79 #[.int .i64 now] w fun e w' => e = .returned (.int .i64 T) ∧ w = w' from hT ▸ held_any now w hn)
    have HC := Lib.hid (show Calls Try.prog 81 #[.pointer (some ⟨cb, 0, none⟩), .agg #[.int .i64 born, .int .i64 done], .int .i64 T] (w.alloc (.cells #[.int .i64 born, .int .i64 done] 146)) fun e w' => e = .returned (.int .i64 Y) ∧ Keep (fun _ => False) (w.alloc (.cells #[.int .i64 born, .int .i64 done] 146)) w' by
      rw [hY, hT]; exact young_any (ka.heap h.blk id) born done (heldT now) (h.ok.times _ (lk_mem hln)).1 h.ok.least (heldT_in now))
    have H := Lib.hid (h.keep0 ka)
    have HKA := Lib.hid ka
    have HCO := Lib.hid hcode
    clear h hln ka hY hT hy hd hdc hyT hcode
    by_cases hc : code = 0
    case' neg => have hcb : (code == 0) = false := by simpa using hc
    all_goals first | rw [if_pos hc] | rw [if_neg hc]
    all_goals go_enter Try.func45, Try.ntmps45
    all_goals go_wp2_with fail
    all_goals refine HD.out.mono ?_
    all_goals rintro e W1 ⟨rfl, rfl⟩
    all_goals go_wp2_with fail
    all_goals refine HC.out.mono ?_
    all_goals rintro e W2 ⟨rfl, k2⟩
    all_goals have H2 := Lib.hid (H.out.keep0 k2)
    all_goals have HK2 := Lib.hid k2
    all_goals clear k2
    all_goals go_wp2_with fail
    all_goals refine (there_any H2.out hl ho nm hnm).mono ?_
    all_goals rintro e W3 ⟨rfl, j3, k3⟩
    all_goals rw [← HCO.out]
    all_goals obtain ⟨n2, hn2⟩ : ∃ n, n = (if code = 0 then (lk c.notes nm.data.toList).getD (0, 0) else (0, 0)) := ⟨_, rfl⟩
    all_goals rw [← hn2]
    all_goals clear hn2
    all_goals obtain ⟨b2, d2⟩ := n2
    all_goals unfold noteV
    all_goals dsimp only
    all_goals have hfin : ∀ W4, Keep (fun _ => False) W3 W4 → ColdPost cb sb mb f S { c with o := c.o.op } w W4 := fun W4 k4 => ⟨S, j3.keep0 k4, (((HKA.out.trans HK2.out).mono (fun _ _ e => e.elim)).trans (k3.mono (fun _ _ e => .inl e))).trans (k4.mono (fun _ _ e => e.elim)), fun x e => .inl e⟩
    all_goals have HF := Lib.hid hfin
    all_goals clear hfin j3 k3 H H2 HC HD c1 hlk
    all_goals first | subst hc | clear hc
    all_goals go_wp2
    all_goals go_ret
    all_goals exact ⟨rfl, HF.out _ ((Keep.refl _ _).alloc _)⟩
end Go.Proofs.Ytgnigkghkldcfaa

/-! cold: Drop, the other ways. -/
namespace Go.Proofs.Ytgnigkghkldcfaa
open Go.RowKit Go.Proofs Go.Lib

set_option maxRecDepth 100000 in
theorem cdrop_none {w : World} {cb sb mb : Nat} {f : Value} {S : Nat → Prop} {c : CS} (h : ColdAt w cb sb mb f S c) (hl : c.o.left ≠ 0) (ho : c.o.ops < 4611686018427387904) (hlost : c.lost ≤ 4000000000000000000) (nm : ByteArray) (hnm : nm.size ≤ maxLen) (now : Int) (hn : -9223372036854775808 ≤ now ∧ now ≤ 9223372036854775807) (force : Bool)
    (hy : (!force && c.young nm.data.toList (heldT now)) = false) :
    Calls Try.prog 45 #[.pointer (some ⟨cb, 0, none⟩), .string nm, .int .i64 now, .bool force] w fun e w' => e = .returned (.int .i64 (c.dropCode nm.data.toList now force)) ∧ ColdPost cb sb mb f S (c.drop nm.data.toList now force) w w' := by
  have c1 : w.cell? ⟨cb, 1, none⟩ = some (.map (some mb)) := by rw [cell_blk h.blk]; rfl
  have hlk := MapP.look_ok Try.underlying9 Try.underlying74 h.map nm hnm (zero_note w)
  rw [lk_mapV] at hlk
  obtain ⟨code, hcode⟩ : ∃ k, k = c.o.getCode nm.data.toList := ⟨_, rfl⟩
  obtain ⟨T, hT⟩ : ∃ T, T = heldT now := ⟨_, rfl⟩
  have hTi : 0 ≤ T ∧ T ≤ 1125899906842624 := by rw [hT]; exact heldT_in now
  have hd : c.drop nm.data.toList now force = if code = 0 then ({ c with o := c.o.drop nm.data.toList } : CS).gone nm.data.toList T else { c with o := c.o.drop nm.data.toList } := by
    unfold CS.drop; rw [if_neg (by rw [hy]; decide), hcode, hT]
  have hdc : c.dropCode nm.data.toList now force = code := by
    unfold CS.dropCode; rw [if_neg (by rw [hy]; simp), hcode]
  rw [hd, hdc]
  have HD := Lib.hid (show Calls Try.prog 79 #[.int .i64 now] w fun e w' => e = .returned (.int .i64 T) ∧ w = w' from hT ▸ held_any now w hn)
  have HCO := Lib.hid hcode
  have HT := Lib.hid hT
  obtain ⟨bd, tv, hbd, htv⟩ : ∃ (n : Int × Int) (x : Bool), n = (lk c.notes nm.data.toList).getD (0, 0) ∧ x = (lk c.notes nm.data.toList).isSome := ⟨_, _, rfl, rfl⟩
  have hlk2 : (Instr.lookup 74 (.map (some mb)) (.string nm) true).run Try.prog w = .ok (.tuple #[.agg #[.int .i64 bd.1, .int .i64 bd.2], .bool tv]) w := by
    rw [hlk, hbd, htv]
    cases lk c.notes nm.data.toList <;> rfl
  obtain ⟨born, done⟩ := bd
  dsimp only at hlk2
  have ka : Keep (fun _ => False) w (w.alloc (.cells #[.int .i64 born, .int .i64 done] 146)) := (Keep.refl _ _).alloc _
  obtain ⟨Y, hY⟩ : ∃ Y, Y = youngT c.least born T := ⟨_, rfl⟩
  have HC := Lib.hid (show tv = true → Calls Try.prog 81 #[.pointer (some ⟨cb, 0, none⟩), .agg #[.int .i64 born, .int .i64 done], .int .i64 T] (w.alloc (.cells #[.int .i64 born, .int .i64 done] 146)) fun e w' => e = .returned (.int .i64 Y) ∧ Keep (fun _ => False) (w.alloc (.cells #[.int .i64 born, .int .i64 done] 146)) w' from fun ht => by
    have hm : lk c.notes nm.data.toList = some (born, done) := by
      rw [ht] at htv
      obtain ⟨x, hx⟩ := Option.isSome_iff_exists.1 htv.symm
      rw [hx] at hbd ⊢; simp at hbd; rw [hbd]
    rw [hY, hT]; exact young_any (ka.heap h.blk id) born done (heldT now) (h.ok.times _ (lk_mem hm)).1 h.ok.least (heldT_in now))
  have hcase : tv = false ∨ (tv = true ∧ force = true) ∨ (tv = true ∧ force = false ∧ ¬ 0 < Y) := by
    cases ht : tv with
    | false => exact .inl rfl
    | true =>
      cases hfo : force with
      | true => exact .inr (.inl ⟨rfl, rfl⟩)
      | false =>
        refine .inr (.inr ⟨rfl, rfl, ?_⟩)
        have hm : lk c.notes nm.data.toList = some (born, done) := by
          rw [ht] at htv
          obtain ⟨x, hx⟩ := Option.isSome_iff_exists.1 htv.symm
          rw [hx] at hbd ⊢; simp at hbd; rw [hbd]
        unfold CS.young at hy
        rw [hm, hfo] at hy
        dsimp only at hy
        rw [hY, hT]
        simpa using hy
  have H := Lib.hid (h.keep0 ka)
  have HKA := Lib.hid ka
  have hfinA : ∀ W2 W3 W4, Keep (fun _ => False) (w.alloc (.cells #[.int .i64 born, .int .i64 done] 146)) W2 → Turn S S W2 W3 → ColdAt W4 cb sb mb f S (({ c with o := c.o.drop nm.data.toList } : CS).gone nm.data.toList T) → Keep (fun x => x = cb ∨ x = mb) W3 W4 → ColdPost cb sb mb f S (({ c with o := c.o.drop nm.data.toList } : CS).gone nm.data.toList T) w W4 := fun W2 W3 W4 k2 t3 j4 k4 =>
    ⟨S, j4, (((ka.trans k2).mono (fun _ _ e => e.elim)).trans (t3.keep.mono (fun _ _ e => .inl e))).trans (k4.mono (fun _ _ e => .inr e)), fun x e => .inl e⟩
  have hfinB : ∀ W2 W3, Keep (fun _ => False) (w.alloc (.cells #[.int .i64 born, .int .i64 done] 146)) W2 → Turn S S W2 W3 → ColdAt W3 cb sb mb f S { c with o := c.o.drop nm.data.toList } → ColdPost cb sb mb f S { c with o := c.o.drop nm.data.toList } w W3 := fun W2 W3 k2 t3 j3 =>
    ⟨S, j3, ((ka.trans k2).mono (fun _ _ e => e.elim)).trans (t3.keep.mono (fun _ _ e => .inl e)), fun x e => .inl e⟩
  have HFA := Lib.hid hfinA; have HFB := Lib.hid hfinB
  have c0 : (w.alloc (.cells #[.int .i64 born, .int .i64 done] 146)).cell? ⟨cb, 0, none⟩ = some (.pointer (some ⟨sb, 0, none⟩)) := by rw [cell_blk H.out.blk]; rfl
  have K0 := Lib.hid (Keep.refl (fun _ => False) (w.alloc (.cells #[.int .i64 born, .int .i64 done] 146)))
  clear h hlk hd hdc hT hY hbd htv ka hfinA hfinB hcode hy
  by_cases hc : code = 0
  case' neg => have hcb : (code == 0) = false := by simpa using hc
  all_goals first | rw [if_pos hc] | rw [if_neg hc]
  all_goals rcases hcase with rfl | ⟨rfl, rfl⟩ | ⟨rfl, rfl, hy1⟩
  case' pos.inr.inr | neg.inr.inr =>
    go_enter Try.func45, Try.ntmps45
    go_wp2_with fail
    refine HD.out.mono ?_
    rintro e W1 ⟨rfl, rfl⟩
    go_wp2_with fail
    refine (HC.out (by simp)).mono ?_
    rintro e W2 ⟨rfl, k2⟩
    have c2 := cell_blk (k2.heap H.out.blk id) 0
    simp at c2
    have K2 := Lib.hid k2; have H2 := Lib.hid (H.out.keep0 k2)
    clear k2
    go_wp2_with fail
  case' pos.inl | neg.inl | pos.inr.inl | neg.inr.inl =>
    go_enter Try.func45, Try.ntmps45
    go_wp2_with fail
    refine HD.out.mono ?_
    rintro e W1 ⟨rfl, rfl⟩
    go_wp2_with fail
    have K2 := Lib.hid K0.out; have H2 := Lib.hid H.out
  all_goals refine (H2.out.st.drop hl ho nm hnm).mono ?_
  all_goals rintro e W3 ⟨rfl, h3, t3⟩
  all_goals rw [← HCO.out]
  all_goals have j3 := H2.out.turn h3 t3
  all_goals have J3 := Lib.hid j3
  all_goals have T3 := Lib.hid t3
  all_goals clear h3 t3 j3
  case' pos.inl | pos.inr.inl | pos.inr.inr =>
    subst hc
    go_wp2_with fail
    refine (gone_any J3.out nm hnm T hTi hlost).mono ?_
    rintro e W4 ⟨rfl, j4, k4⟩
    have HF := Lib.hid (HFA.out _ _ _ K2.out T3.out j4 k4)
    clear j4 k4
    go_wp2
    go_ret
    exact ⟨rfl, HF.out⟩
  all_goals have HF := Lib.hid (HFB.out _ _ K2.out T3.out J3.out)
  all_goals clear hc
  all_goals go_wp2
  all_goals go_ret
  all_goals exact ⟨rfl, HF.out⟩

theorem cdrop_any {w : World} {cb sb mb : Nat} {f : Value} {S : Nat → Prop} {c : CS} (h : ColdAt w cb sb mb f S c) (hl : c.o.left ≠ 0) (ho : c.o.ops < 4611686018427387904) (hlost : c.lost ≤ 4000000000000000000) (nm : ByteArray) (hnm : nm.size ≤ maxLen) (now : Int) (hn : -9223372036854775808 ≤ now ∧ now ≤ 9223372036854775807) (force : Bool) :
    Calls Try.prog 45 #[.pointer (some ⟨cb, 0, none⟩), .string nm, .int .i64 now, .bool force] w fun e w' => e = .returned (.int .i64 (c.dropCode nm.data.toList now force)) ∧ ColdPost cb sb mb f S (c.drop nm.data.toList now force) w w' := by
  cases hy : (!force && c.young nm.data.toList (heldT now)) with
  | false => exact cdrop_none h hl ho hlost nm hnm now hn force hy
  | true =>
    rw [Bool.and_eq_true] at hy
    obtain ⟨h1, h2⟩ := hy
    have h3 : force = false := by simpa using h1
    subst h3
    exact cdrop_young h hl ho nm hnm now hn h2
end Go.Proofs.Ytgnigkghkldcfaa
