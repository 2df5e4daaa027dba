/-
  cold: Pending.
-/
import Derived.Test.YtgnigkghkldcfaaColdB
import Derived.BigRegion
import Derived.RegionTactic
import Derived.ChangeAlike
import Derived.Deep.QuietTactic
import Derived.BigQuiet

/-! cold: Pending. -/
namespace Go.Proofs.Ytgnigkghkldcfaa
open Go.RowKit Go.Proofs Go.Lib

/-- how many elements there are of a kind -/
theorem count_delK2 {α : Type} {l : List (Bs × α)} (hr : Rising l) {k : Bs} {v : α} (hk : lk l k = some v) (p : α → Bool) :
    ((delK k l).filter (fun e => p e.2)).length + (if p v then 1 else 0) = (l.filter (fun e => p e.2)).length := by
  induction l with
  | nil => simp [lk] at hk
  | cons x l ih =>
    have hx : ∀ y ∈ l, y.1 ≠ x.1 := fun y hy => (before_ne ((List.pairwise_cons.1 hr).1 y hy)).symm
    rw [lk_cons] at hk
    by_cases h : (x.1 == k) = true
    · rw [if_pos h] at hk
      simp only [beq_iff_eq] at h
      subst h
      cases hk
      have e : delK x.1 (x :: l) = l := by
        unfold delK
        rw [List.filter_cons_of_neg (by simp)]
        exact delK_above hx
      rw [e]
      by_cases hp : p x.2 = true
      · rw [if_pos hp, List.filter_cons_of_pos (by simpa using hp)]; simp
      · rw [if_neg hp, List.filter_cons_of_neg (by simpa using hp)]; simp
    · rw [if_neg h] at hk
      have e : delK k (x :: l) = x :: delK k l := by
        unfold delK
        rw [List.filter_cons_of_pos (by simpa using h)]
      rw [e]
      have := ih (List.pairwise_cons.1 hr).2 hk
      by_cases hp : p x.2 = true
      · rw [List.filter_cons_of_pos (by simpa using hp), List.filter_cons_of_pos (by simpa using hp)]
        simp only [List.length_cons]; omega
      · rw [List.filter_cons_of_neg (by simpa using hp), List.filter_cons_of_neg (by simpa using hp)]
        exact this

/-- is a thing's job pending? -/
def pendB (life now : Int) (n : Int × Int) : Bool := decide (stateT life n.2 (heldT now) = 1)
def pendN (life now : Int) (l : List (Bs × (Int × Int))) : Nat := (l.filter (fun e => pendB life now e.2)).length
/-- how many are pending -/
def CS.pend (c : CS) (now : Int) : Nat := pendN c.life now c.notes
theorem pendN_le (life now : Int) (l : List (Bs × (Int × Int))) : pendN life now l ≤ l.length := List.length_filter_le _ _

set_option maxRecDepth 100000 in
set_option maxHeartbeats 1000000 in
theorem cpending_any {w : World} {cb sb mb : Nat} {f : Value} {S : Nat → Prop} {c : CS} (h : ColdAt w cb sb mb f S c) (now : Int) (hn : -9223372036854775808 ≤ now ∧ now ≤ 9223372036854775807) :
    Calls Try.prog 50 #[.pointer (some ⟨cb, 0, none⟩), .int .i64 now] w fun e w' => e = .returned (.int .i64 (c.pend now)) ∧ Keep (fun _ => False) w w' := by
  have c1 : w.cell? ⟨cb, 1, none⟩ = some (.map (some mb)) := by rw [cell_blk h.blk]; rfl
  obtain ⟨W2, hrange, hran, hk2, hs2⟩ := MapP.range Try.underlying9 Try.underlying74 h.map (rising_mapV noteV h.ok.rising)
  have HRAN := Lib.hid hran; have HK2 := Lib.hid hk2
  have H := Lib.hid h
  have HD := Lib.hid (fun W => held_any now W hn)
  have hm := h.ok.many
  have hr0 : w.heap.size ≠ cb := by have := h.lt; omega
  have hP : c.pend now = pendN c.life now c.notes := rfl
  have HP := Lib.hid hP
  obtain ⟨N, hN⟩ : ∃ N, N = c.pend now := ⟨_, rfl⟩
  rw [← hN]
  have HN := Lib.hid hN
  have hNm : N ≤ 4097 := by have := pendN_le c.life now c.notes; omega
  obtain ⟨r, hr⟩ : ∃ r, r = w.heap.size := ⟨_, rfl⟩
  rw [← hr] at hrange hran HRAN hs2
  have HR := Lib.hid hr
  clear h hran hk2 hP hN hr hm
  go_enter Try.func50, Try.ntmps50
  go_wp2
  clear hrange
  go_loopg [5] c.notes.length (fun g v5 wr => ∃ (l : List (Bs × (Int × Int))) (n : Nat), g = l.length ∧ v5 = .int .i64 n ∧ n + pendN c.life now l = N ∧ MRan Try.prog 9 wr mb r (mapV noteV c.notes) (mapV noteV l) ∧ Keep (fun _ => False) w wr)
  case atStart => exact ⟨c.notes, 0, rfl, rfl, by rw [HN.out, HP.out]; omega, HRAN.out, HK2.out⟩
  case round =>
    obtain ⟨l, n, rfl, rfl, hcnt, hran, hkr⟩ := hrel
    rcases MRan.next Try.underlying9 hran with ⟨hnil, hnx⟩ | ⟨k, u, W3, hlk, hlm, hnx, hran3, hk3, hs3, hen⟩
    · have hl0 : l = [] := by
        cases l with
        | nil => rfl
        | cons a r => cases hnil
      subst hl0
      have hn0 : n = N := by rw [← hcnt]; rfl
      subst hn0
      have HK := Lib.hid hkr
      clear hcnt hran hkr hnil HRAN HK2
      go_wp2
      go_ret
      exact ⟨rfl, HK.out⟩
    · obtain ⟨b, hb1, rfl⟩ : ∃ b, lk l k = some b ∧ u = noteV b := by
        rw [lk_mapV] at hlk
        cases h : lk l k with
        | none => rw [h] at hlk; cases hlk
        | some b => rw [h] at hlk; exact ⟨b, rfl, by simpa using hlk.symm⟩
      have hrb : lk c.notes k = some b := by
        rw [lk_mapV] at hlm
        cases h : lk c.notes k with
        | none => rw [h] at hlm; cases hlm
        | some b' =>
          rw [h] at hlm
          obtain ⟨x, y⟩ := b; obtain ⟨x', y'⟩ := b'
          simp [noteV] at hlm
          rw [hlm.1, hlm.2]
      have hrl : Rising l := by
        obtain ⟨_, _, _, _, _, _, h, _⟩ := hran
        unfold Rising mapV at h
        rw [List.pairwise_map] at h
        exact h
      rw [delK_mapV] at hran3
      have hlen := length_delK_lt hrl hb1
      have hsum := count_delK2 hrl hb1 (pendB c.life now)
      obtain ⟨born, done⟩ := b
      have hkw : Keep (fun _ => False) w W3 := hkr.trans' hk3 (fun _ _ e => e) (fun i hi e => by have := HR.out; omega)
      have hb3 := hkw.heap H.out.blk id
      have ka : Keep (fun _ => False) W3 (W3.alloc (.cells #[.int .i64 born, .int .i64 done] 146)).drew := ((Keep.refl _ _).alloc _).drew
      obtain ⟨Y, hY⟩ : ∃ Y, Y = stateT c.life done (heldT now) := ⟨_, rfl⟩
      obtain ⟨T, hT⟩ : ∃ T, T = heldT now := ⟨_, rfl⟩
      have HD2 := Lib.hid (show ∀ W, Calls Try.prog 79 #[.int .i64 now] W fun e w' => e = .returned (.int .i64 T) ∧ W = w' from fun W => hT ▸ HD.out W)
      have HC := Lib.hid (show Calls Try.prog 83 #[.pointer (some ⟨cb, 0, none⟩), .agg #[.int .i64 born, .int .i64 done], .int .i64 T] (W3.alloc (.cells #[.int .i64 born, .int .i64 done] 146)).drew fun e w' => e = .returned (.int .i64 Y) ∧ Keep (fun _ => False) (W3.alloc (.cells #[.int .i64 born, .int .i64 done] 146)).drew w' by
        rw [hY, hT]; exact state_any (ka.heap hb3 id) born done (heldT now) (H.out.ok.times _ (lk_mem hrb)).2 H.out.ok.life)
      have hpb : pendB c.life now (born, done) = decide (Y = 1) := by rw [hY]; rfl
      rw [hpb] at hsum
      have hfin : ∀ (W4 : World), Keep (fun _ => False) (W3.alloc (.cells #[.int .i64 born, .int .i64 done] 146)).drew W4 → MRan Try.prog 9 W4 mb r (mapV noteV c.notes) (mapV noteV (delK k l)) ∧ Keep (fun _ => False) w W4 := fun W4 k4 =>
        ⟨(hran3.keep ka id id).keep k4 id id, (hkw.trans ka).trans k4⟩
      have b6 := alloc_new W3 (.cells #[.int .i64 born, .int .i64 done] 146)
      have e0 : (W3.alloc (.cells #[.int .i64 born, .int .i64 done] 146)).drew.cell? ⟨W3.heap.size, 0, none⟩ = some (.int .i64 born) := by rw [cell_blk ((Keep.refl (fun _ => False) _).drew.heap b6 id)]; rfl
      have e1 : (W3.alloc (.cells #[.int .i64 born, .int .i64 done] 146)).drew.cell? ⟨W3.heap.size, 1, none⟩ = some (.int .i64 done) := by rw [cell_blk ((Keep.refl (fun _ => False) _).drew.heap b6 id)]; rfl
      have HF := Lib.hid hfin; have HCN := Lib.hid hcnt; have HSU := Lib.hid hsum; have HLE := Lib.hid hlen
      have hnN : n ≤ N := by omega
      unfold noteV at hnx hen
      dsimp only at hnx hen
      clear hfin hcnt hsum hlen hran hkr hlk hlm hran3 hk3 hs3 hb1 hrb hrl hkw hb3 ka hY hT hpb b6 HRAN HK2
      by_cases hy : Y = 1
      case' neg => have hyb : (Y == 1) = false := by simpa using hy
      case' pos => subst hy
      all_goals go_wp2_with fail
      all_goals go_region_with (first | (go_at_call 79; refine (HD2.out _).mono ?_; rintro e w' ⟨rfl, rfl⟩) | (go_at_call 83; refine HC.out.mono ?_; rintro e w' ⟨rfl, kY⟩))
      all_goals have HX := Lib.hid (HF.out _ (by assumption))
      all_goals clear kY
      all_goals go_wp2
      all_goals
        go_roundg (delK k l).length
        case measure => have := HLE.out; omega
        case rel => first | exact ⟨delK k l, n + 1, rfl, by go_num, by have h1 := HCN.out; have h2 := HSU.out; unfold pendN at h1 ⊢; simp only [decide_true, if_true] at h2; omega, HX.out.1, HX.out.2⟩ | exact ⟨delK k l, n, rfl, rfl, by have h1 := HCN.out; have h2 := HSU.out; unfold pendN at h1 ⊢; rw [if_neg (by simpa using hy)] at h2; omega, HX.out.1, HX.out.2⟩
end Go.Proofs.Ytgnigkghkldcfaa

/-! cold: Request. -/
namespace Go.Proofs.Ytgnigkghkldcfaa
open Go.RowKit Go.Proofs Go.Lib

theorem heldT_idem (t : Int) : heldT (heldT t) = heldT t := by unfold heldT; omega
def CS.noteOf (c : CS) (nm : Bs) : Int × Int := (lk c.notes nm).getD (0, 0)
theorem CS.Ok.noteOf {c : CS} (h : c.Ok) (nm : Bs) : (0 ≤ (c.noteOf nm).1 ∧ (c.noteOf nm).1 ≤ 1125899906842624) ∧ (-1 ≤ (c.noteOf nm).2 ∧ (c.noteOf nm).2 ≤ 1125899906842624) := by
  unfold CS.noteOf
  cases hl : lk c.notes nm with
  | none => simp
  | some n => exact h.times _ (lk_mem hl)

def CS.reqCode (c : CS) (nm : Bs) (now wait : Int) : Int :=
  if c.o.getCode nm = 0 then (if stateT c.life (c.noteOf nm).2 (heldT now) = 0 then (if wait < 0 then 1 else if c.jobs ≤ c.pend now then 33 else 0) else 0) else c.o.getCode nm
/-- is a thing thawed from now on? -/
def CS.asked (c : CS) (nm : Bs) (now wait : Int) : Bool :=
  decide (c.o.getCode nm = 0) && decide (stateT c.life (c.noteOf nm).2 (heldT now) = 0) && !decide (wait < 0) && !decide (c.jobs ≤ c.pend now)
def CS.req (c : CS) (nm : Bs) (now wait : Int) : CS :=
  if c.asked nm now wait = true then ({ c with o := c.o.op } : CS).set nm ((c.noteOf nm).1, afterT (heldT now) wait) else { c with o := c.o.op }

theorem pend_held (c : CS) (now : Int) : c.pend (heldT now) = c.pend now := by
  unfold CS.pend pendN pendB
  rw [heldT_idem]

/-- the ways that ask for nothing -/
theorem creq_no {w : World} {cb sb mb : Nat} {f : Value} {S : Nat → Prop} {c : CS} (h : ColdAt w cb sb mb f S c) (hl : c.o.left ≠ 0) (ho : c.o.ops < 4611686018427387904) (nm : ByteArray) (hnm : nm.size ≤ maxLen) (now : Int) (hn : -9223372036854775808 ≤ now ∧ now ≤ 9223372036854775807) (wait : Int) (hw : -9223372036854775808 ≤ wait ∧ wait ≤ 9223372036854775807)
    (ha : c.asked nm.data.toList now wait = false) :
    Calls Try.prog 46 #[.pointer (some ⟨cb, 0, none⟩), .string nm, .int .i64 now, .int .i64 wait] w fun e w' => e = .returned (.int .i64 (c.reqCode nm.data.toList now wait)) ∧ ColdPost cb sb mb f S (c.req nm.data.toList now wait) w w' := by
  have hreq : c.req nm.data.toList now wait = { c with o := c.o.op } := by unfold CS.req; rw [if_neg (by rw [ha]; decide)]
  rw [hreq]
  obtain ⟨code, hcode⟩ : ∃ k, k = c.o.getCode nm.data.toList := ⟨_, rfl⟩
  obtain ⟨T, hT⟩ : ∃ T, T = heldT now := ⟨_, rfl⟩
  have hTi : 0 ≤ T ∧ T ≤ 1125899906842624 := by rw [hT]; exact heldT_in now
  obtain ⟨st, hst⟩ : ∃ k, k = stateT c.life (c.noteOf nm.data.toList).2 T := ⟨_, rfl⟩
  obtain ⟨pd, hpd⟩ : ∃ k, k = c.pend now := ⟨_, rfl⟩
  have hrc : c.reqCode nm.data.toList now wait = if code = 0 then (if st = 0 then (if wait < 0 then 1 else if c.jobs ≤ pd then 33 else 0) else 0) else code := by
    unfold CS.reqCode; rw [← hcode, ← hT, ← hst, ← hpd]
  unfold CS.asked at ha
  rw [← hcode, ← hT, ← hst, ← hpd] at ha
  have hcase : code ≠ 0 ∨ (code = 0 ∧ st ≠ 0) ∨ (code = 0 ∧ st = 0 ∧ wait < 0) ∨ (code = 0 ∧ st = 0 ∧ ¬ wait < 0 ∧ c.jobs ≤ pd) := by
    simp only [Bool.and_eq_false_iff, decide_eq_false_iff_not, Bool.not_eq_false', decide_eq_true_eq] at ha
    by_cases h1 : code = 0
    · by_cases h2 : st = 0
      · by_cases h3 : wait < 0
        · exact .inr (.inr (.inl ⟨h1, h2, h3⟩))
        · refine .inr (.inr (.inr ⟨h1, h2, h3, ?_⟩))
          rcases ha with ((q | q) | q) | q
          · exact absurd h1 q
          · exact absurd h2 q
          · exact absurd q h3
          · exact q
      · exact .inr (.inl ⟨h1, h2⟩)
    · exact .inl h1
  have HD := Lib.hid (show Calls Try.prog 79 #[.int .i64 now] w fun e w' => e = .returned (.int .i64 T) ∧ w = w' from hT ▸ held_any now w hn)
  have HTH := Lib.hid (there_any h hl ho nm hnm)
  have hnb := h.ok.noteOf nm.data.toList
  have hno : ∀ code', code' = (0 : Int) → (if code' = 0 then (lk c.notes nm.data.toList).getD (0, 0) else (0, 0)) = c.noteOf nm.data.toList := fun code' e => by rw [if_pos e]; rfl
  obtain ⟨⟨born, done⟩, hbd⟩ : ∃ n, n = c.noteOf nm.data.toList := ⟨_, rfl⟩
  rw [← hbd] at hno hnb hst
  dsimp only at hnb hst
  have HNO := Lib.hid hno; have HST := Lib.hid hst; have HCO := Lib.hid hcode; have HNB := Lib.hid hnb; have HPD := Lib.hid hpd; have HTT := Lib.hid hT
  have hfin : ∀ W3 W4, ColdAt W3 cb sb mb f S { c with o := c.o.op } → Keep S w W3 → Keep (fun _ => False) W3 W4 → ColdPost cb sb mb f S { c with o := c.o.op } w W4 := fun W3 W4 j3 k3 k4 => ⟨S, j3.keep0 k4, (k3.mono (fun _ _ e => .inl e)).trans (k4.mono (fun _ _ e => e.elim)), fun x e => .inl e⟩
  have HF := Lib.hid hfin
  have hlife := Lib.hid h.ok.life
  rw [hrc]
  clear h hreq hrc ha hno hnb hst hcode hpd hT hfin hbd
  rcases hcase with h1 | ⟨rfl, h2⟩ | ⟨rfl, rfl, h3⟩ | ⟨rfl, rfl, h3, h4⟩
  · rw [if_neg h1]
    have hcb : (code == 0) = false := by simpa using h1
    go_enter Try.func46, Try.ntmps46
    go_wp2_with fail
    refine HD.out.mono ?_
    rintro e W1 ⟨rfl, rfl⟩
    go_wp2_with fail
    refine HTH.out.mono ?_
    rintro e W3 ⟨rfl, j3, k3⟩
    rw [← HCO.out, if_neg h1]
    unfold noteV
    dsimp only
    have HX := Lib.hid (HF.out W3 _ j3 k3 ((Keep.refl _ _).alloc (.cells #[.int .i64 0, .int .i64 0] 146)))
    clear j3 k3 h1
    go_wp2
    go_ret
    exact ⟨rfl, HX.out⟩
  · rw [if_pos rfl, if_neg h2]
    have hsb : (st == 0) = false := by simpa using h2
    go_enter Try.func46, Try.ntmps46
    go_wp2_with fail
    refine HD.out.mono ?_
    rintro e W1 ⟨rfl, rfl⟩
    go_wp2_with fail
    refine HTH.out.mono ?_
    rintro e W3 ⟨rfl, j3, k3⟩
    rw [HNO.out _ HCO.out.symm, ← HCO.out]
    unfold noteV
    dsimp only
    have ka := (Keep.refl (fun _ => False) W3).alloc (.cells #[.int .i64 born, .int .i64 done] 146)
    have HC := Lib.hid (show Calls Try.prog 83 #[.pointer (some ⟨cb, 0, none⟩), .agg #[.int .i64 born, .int .i64 done], .int .i64 T] (W3.alloc (.cells #[.int .i64 born, .int .i64 done] 146)) fun e w' => e = .returned (.int .i64 st) ∧ Keep (fun _ => False) (W3.alloc (.cells #[.int .i64 born, .int .i64 done] 146)) w' by
      rw [HST.out]; exact state_any (ka.heap j3.blk id) born done T HNB.out.2 hlife.out)
    have HX := Lib.hid (fun W5 (k5 : Keep (fun _ => False) (W3.alloc (.cells #[.int .i64 born, .int .i64 done] 146)) W5) => HF.out W3 W5 j3 k3 (ka.trans k5))
    clear j3 k3 ka h2
    go_wp2_with fail
    refine HC.out.mono ?_
    rintro e W5 ⟨rfl, k5⟩
    have HY := Lib.hid (HX.out _ k5)
    clear k5
    go_wp2
    go_ret
    exact ⟨rfl, HY.out⟩
  · rw [if_pos rfl, if_pos rfl, if_pos h3]
    go_enter Try.func46, Try.ntmps46
    go_wp2_with fail
    refine HD.out.mono ?_
    rintro e W1 ⟨rfl, rfl⟩
    go_wp2_with fail
    refine HTH.out.mono ?_
    rintro e W3 ⟨rfl, j3, k3⟩
    rw [HNO.out _ HCO.out.symm, ← HCO.out]
    unfold noteV
    dsimp only
    have ka := (Keep.refl (fun _ => False) W3).alloc (.cells #[.int .i64 born, .int .i64 done] 146)
    have HC := Lib.hid (show Calls Try.prog 83 #[.pointer (some ⟨cb, 0, none⟩), .agg #[.int .i64 born, .int .i64 done], .int .i64 T] (W3.alloc (.cells #[.int .i64 born, .int .i64 done] 146)) fun e w' => e = .returned (.int .i64 0) ∧ Keep (fun _ => False) (W3.alloc (.cells #[.int .i64 born, .int .i64 done] 146)) w' by
      rw [HST.out]; exact state_any (ka.heap j3.blk id) born done T HNB.out.2 hlife.out)
    have HX := Lib.hid (fun W5 (k5 : Keep (fun _ => False) (W3.alloc (.cells #[.int .i64 born, .int .i64 done] 146)) W5) => HF.out W3 W5 j3 k3 (ka.trans k5))
    clear j3 k3 ka
    go_wp2_with fail
    refine HC.out.mono ?_
    rintro e W5 ⟨rfl, k5⟩
    have HY := Lib.hid (HX.out _ k5)
    clear k5
    go_wp2
    go_ret
    exact ⟨rfl, HY.out⟩
  · rw [if_pos rfl, if_pos rfl, if_neg h3, if_pos h4]
    go_enter Try.func46, Try.ntmps46
    go_wp2_with fail
    refine HD.out.mono ?_
    rintro e W1 ⟨rfl, rfl⟩
    go_wp2_with fail
    refine HTH.out.mono ?_
    rintro e W3 ⟨rfl, j3, k3⟩
    rw [HNO.out _ HCO.out.symm, ← HCO.out]
    unfold noteV
    dsimp only
    have ka := (Keep.refl (fun _ => False) W3).alloc (.cells #[.int .i64 born, .int .i64 done] 146)
    have HC := Lib.hid (show Calls Try.prog 83 #[.pointer (some ⟨cb, 0, none⟩), .agg #[.int .i64 born, .int .i64 done], .int .i64 T] (W3.alloc (.cells #[.int .i64 born, .int .i64 done] 146)) fun e w' => e = .returned (.int .i64 0) ∧ Keep (fun _ => False) (W3.alloc (.cells #[.int .i64 born, .int .i64 done] 146)) w' by
      rw [HST.out]; exact state_any (ka.heap j3.blk id) born done T HNB.out.2 hlife.out)
    have HX := Lib.hid (fun W5 (k5 : Keep (fun _ => False) (W3.alloc (.cells #[.int .i64 born, .int .i64 done] 146)) W5) => HF.out W3 W5 j3 k3 (ka.trans k5))
    have HJ := Lib.hid (j3.keep0 ka)
    clear j3 k3 ka
    go_wp2_with fail
    refine HC.out.mono ?_
    rintro e W5 ⟨rfl, k5⟩
    have j5 := HJ.out.keep0 k5
    have HP := Lib.hid (show Calls Try.prog 50 #[.pointer (some ⟨cb, 0, none⟩), .int .i64 T] W5.drew fun e w' => e = .returned (.int .i64 pd) ∧ Keep (fun _ => False) W5.drew w' by
      rw [HPD.out, ← pend_held, ← HTT.out]
      exact cpending_any (j5.keep0 (Keep.refl _ _).drew) T (by omega))
    have c2 : W5.cell? ⟨cb, 2, none⟩ = some (.int .i64 c.jobs) := by rw [cell_blk j5.blk]; rfl
    have hY : ∀ w', Keep (fun _ => False) W5.drew w' → w'.cell? ⟨cb, 2, none⟩ = some (.int .i64 c.jobs) ∧ ColdPost cb sb mb f S { c with o := c.o.op } w w' := fun w' k => ⟨by rw [cell_blk ((j5.keep0 (Keep.refl _ _).drew).keep0 k).blk]; rfl, HX.out _ (k5.trans ((Keep.refl _ _).drew.trans k))⟩
    have HY := Lib.hid hY
    clear k5 j5 hY
    go_wp2_with fail
    go_region_with (first | (go_at_call 50; refine HP.out.mono ?_; rintro e w' ⟨rfl, k6⟩; have c6 := (HY.out _ k6).1; have HZ := Lib.hid (HY.out _ k6).2; clear k6))
    all_goals go_wp2
    all_goals go_ret
    all_goals exact ⟨rfl, HZ.out⟩
end Go.Proofs.Ytgnigkghkldcfaa

/-! cold: Request, where it asks; Fail. -/
namespace Go.Proofs.Ytgnigkghkldcfaa
open Go.RowKit Go.Proofs Go.Lib

theorem ColdAt.set' {w w' : World} {cb sb mb : Nat} {f : Value} {S : Nat → Prop} {c : CS} (h : ColdAt w cb sb mb f S c) {nm : Bs} {n : Int × Int} (hm : MapP Try.prog 9 w' mb (putK nm (noteV n) (mapV noteV c.notes))) (hk : Keep (· = mb) w w') (hn : (0 ≤ n.1 ∧ n.1 ≤ 1125899906842624) ∧ (-1 ≤ n.2 ∧ n.2 ≤ 1125899906842624)) (hl : c.notes.length ≤ 4096) : ColdAt w' cb sb mb f S (c.set nm n) :=
  h.set hm hk hn (by
    unfold putK
    rw [length_insK]
    have h5 := delK_le nm c.notes
    show (delK nm c.notes).length + 1 ≤ 4097
    omega)

set_option maxRecDepth 100000 in
set_option maxHeartbeats 1000000 in
theorem creq_yes {w : World} {cb sb mb : Nat} {f : Value} {S : Nat → Prop} {c : CS} (h : ColdAt w cb sb mb f S c) (hl : c.o.left ≠ 0) (ho : c.o.ops < 4611686018427387904) (hmany : c.notes.length ≤ 4096) (nm : ByteArray) (hnm : nm.size ≤ maxLen) (now : Int) (hn : -9223372036854775808 ≤ now ∧ now ≤ 9223372036854775807) (wait : Int) (hw : -9223372036854775808 ≤ wait ∧ wait ≤ 9223372036854775807)
    (ha : c.asked nm.data.toList now wait = true) :
    Calls Try.prog 46 #[.pointer (some ⟨cb, 0, none⟩), .string nm, .int .i64 now, .int .i64 wait] w fun e w' => e = .returned (.int .i64 (c.reqCode nm.data.toList now wait)) ∧ ColdPost cb sb mb f S (c.req nm.data.toList now wait) w w' := by
  have hreq : c.req nm.data.toList now wait = ({ c with o := c.o.op } : CS).set nm.data.toList ((c.noteOf nm.data.toList).1, afterT (heldT now) wait) := by unfold CS.req; rw [if_pos ha]
  rw [hreq]
  obtain ⟨code, hcode⟩ : ∃ k, k = c.o.getCode nm.data.toList := ⟨_, rfl⟩
  obtain ⟨T, hT⟩ : ∃ T, T = heldT now := ⟨_, rfl⟩
  have hTi : 0 ≤ T ∧ T ≤ 1125899906842624 := by rw [hT]; exact heldT_in now
  obtain ⟨T2, hT2⟩ : ∃ T2, T2 = afterT T wait := ⟨_, rfl⟩
  obtain ⟨st, hst⟩ : ∃ k, k = stateT c.life (c.noteOf nm.data.toList).2 T := ⟨_, rfl⟩
  obtain ⟨pd, hpd⟩ : ∃ k, k = c.pend now := ⟨_, rfl⟩
  have hrc : c.reqCode nm.data.toList now wait = if code = 0 then (if st = 0 then (if wait < 0 then 1 else if c.jobs ≤ pd then 33 else 0) else 0) else code := by
    unfold CS.reqCode; rw [← hcode, ← hT, ← hst, ← hpd]
  unfold CS.asked at ha
  rw [← hcode, ← hT, ← hst, ← hpd] at ha
  simp only [Bool.and_eq_true, decide_eq_true_eq, Bool.not_eq_true', decide_eq_false_iff_not] at ha
  obtain ⟨⟨⟨rfl, rfl⟩, h3⟩, h4⟩ := ha
  rw [hrc, if_pos rfl, if_pos rfl, if_neg h3, if_neg h4]
  rw [← hT, ← hT2]
  have HD := Lib.hid (show Calls Try.prog 79 #[.int .i64 now] w fun e w' => e = .returned (.int .i64 T) ∧ w = w' from hT ▸ held_any now w hn)
  have HA := Lib.hid (show ∀ W, Calls Try.prog 84 #[.int .i64 T, .int .i64 wait] W fun e w' => e = .returned (.int .i64 T2) ∧ W = w' from fun W => hT2 ▸ after_any T wait W ⟨by omega, hTi.2⟩ hw)
  have hT2i : -1 ≤ T2 ∧ T2 ≤ 1125899906842624 := by rw [hT2]; have := afterT_in (t := T) ⟨by omega, hTi.2⟩ wait; omega
  have HTH := Lib.hid (there_any h hl ho nm hnm)
  have hnb := h.ok.noteOf nm.data.toList
  have hno : ∀ code', code' = (0 : Int) → (if code' = 0 then (lk c.notes nm.data.toList).getD (0, 0) else (0, 0)) = c.noteOf nm.data.toList := fun code' e => by rw [if_pos e]; rfl
  obtain ⟨⟨born, done⟩, hbd⟩ : ∃ n, n = c.noteOf nm.data.toList := ⟨_, rfl⟩
  rw [← hbd] at hno hnb hst ⊢
  dsimp only at hnb hst ⊢
  have HNO := Lib.hid hno; have HST := Lib.hid hst; have HCO := Lib.hid hcode; have HNB := Lib.hid hnb; have HPD := Lib.hid hpd; have HTT := Lib.hid hT; have HTI := Lib.hid hT2i
  have hlife := Lib.hid h.ok.life
  have hsz := Lib.hid h.lt
  have hSl := Lib.hid h.st.lt
  clear h hreq hrc hno hnb hst hcode hpd hT hbd hT2 hT2i
  go_enter Try.func46, Try.ntmps46
  go_wp2_with fail
  refine HD.out.mono ?_
  rintro e W1 ⟨rfl, rfl⟩
  go_wp2_with fail
  refine HTH.out.mono ?_
  rintro e W3 ⟨rfl, j3, k3⟩
  rw [HNO.out _ HCO.out.symm, ← HCO.out]
  unfold noteV
  dsimp only
  have ka := (Keep.refl (fun _ => False) W3).alloc (.cells #[.int .i64 born, .int .i64 done] 146)
  have b4 := alloc_new W3 (.cells #[.int .i64 born, .int .i64 done] 146)
  have HC := Lib.hid (show Calls Try.prog 83 #[.pointer (some ⟨cb, 0, none⟩), .agg #[.int .i64 born, .int .i64 done], .int .i64 T] (W3.alloc (.cells #[.int .i64 born, .int .i64 done] 146)) fun e w' => e = .returned (.int .i64 0) ∧ Keep (fun _ => False) (W3.alloc (.cells #[.int .i64 born, .int .i64 done] 146)) w' by
    rw [HST.out]; exact state_any (ka.heap j3.blk id) born done T HNB.out.2 hlife.out)
  have HJ := Lib.hid (j3.keep0 ka)
  obtain ⟨bx, hbx⟩ : ∃ b, b = W3.heap.size := ⟨_, rfl⟩
  have hbx1 : w.heap.size ≤ bx := by rw [hbx]; exact k3.size
  rw [← hbx] at b4
  have HB4 := Lib.hid b4; have HBX := Lib.hid hbx; have HK3 := Lib.hid k3; have HKA := Lib.hid ka
  clear j3 k3 ka b4 hbx
  go_wp2_with fail
  rw [← HBX.out]
  refine HC.out.mono ?_
  rintro e W5 ⟨rfl, k5⟩
  have j5 := HJ.out.keep0 k5
  have b5 := k5.heap HB4.out id
  have HP := Lib.hid (show Calls Try.prog 50 #[.pointer (some ⟨cb, 0, none⟩), .int .i64 T] W5.drew fun e w' => e = .returned (.int .i64 pd) ∧ Keep (fun _ => False) W5.drew w' by
    rw [HPD.out, ← pend_held, ← HTT.out]
    exact cpending_any (j5.keep0 (Keep.refl _ _).drew) T (by omega))
  have c2 : W5.cell? ⟨cb, 2, none⟩ = some (.int .i64 c.jobs) := by rw [cell_blk j5.blk]; rfl
  have hY : ∀ w', Keep (fun _ => False) W5.drew w' → w'.cell? ⟨cb, 2, none⟩ = some (.int .i64 c.jobs) ∧ ColdAt w' cb sb mb f S { c with o := c.o.op } ∧ Keep S w w' ∧ w'.heap[bx]? = some (.cells #[.int .i64 born, .int .i64 done] 146 (0, 0)) := fun w' k =>
    have j6 := (j5.keep0 (Keep.refl _ _).drew).keep0 k
    have k6 := (Keep.refl _ _).drew.trans k
    ⟨by rw [cell_blk j6.blk]; rfl, j6, HK3.out.trans' ((HKA.out.trans k5).trans k6) (fun _ _ e => e) (fun _ _ e => e.elim), k6.heap b5 id⟩
  have HY := Lib.hid hY
  clear k5 j5 hY b5
  go_wp2_with fail
  go_region_with (first | (go_at_call 50; refine HP.out.mono ?_; rintro e w' ⟨rfl, k6⟩; have c6 := (HY.out _ k6).1; have HZ := Lib.hid (HY.out _ k6).2; clear k6))
  all_goals clear c2 c6
  all_goals go_wp2_with fail
  all_goals refine (HA.out _).mono ?_
  all_goals rintro e W7 ⟨rfl, rfl⟩
  all_goals obtain ⟨j6, k6, b6⟩ := HZ.out
  all_goals have bl := lt_blk b6
  all_goals have hbxn : ¬ S bx := fun e => by have := hSl.out _ e; omega
  all_goals have hbxc : bx ≠ cb := by have := hsz.out; omega
  all_goals have hbxm : bx ≠ mb := by have := hsz.out; omega
  all_goals have f6 := frozen_blk b6 1
  all_goals have e6 := cell_blk b6 1
  all_goals simp at e6
  all_goals have k7 : Keep (· = bx) w' (w'.setCell ⟨bx, 1, none⟩ (.int .i64 T2)) := (Keep.refl (· = bx) _).setCell (p := ⟨bx, 1, none⟩) (fun _ => rfl) _
  all_goals have b7 : (w'.setCell ⟨bx, 1, none⟩ (.int .i64 T2)).heap[bx]? = some (.cells #[.int .i64 born, .int .i64 T2] 146 (0, 0)) := by rw [set_blk b6 1]; rfl
  all_goals have j7 := (j6.keep k7 (fun x e => by rw [e]; exact ⟨hbxn, hbxc, hbxm⟩))
  all_goals have q0 : (w'.setCell ⟨bx, 1, none⟩ (.int .i64 T2)).cell? ⟨bx, 0, none⟩ = some (.int .i64 born) := by rw [cell_blk b7]; rfl
  all_goals have q1 : (w'.setCell ⟨bx, 1, none⟩ (.int .i64 T2)).cell? ⟨bx, 1, none⟩ = some (.int .i64 T2) := by rw [cell_blk b7]; rfl
  all_goals have q2 : (w'.setCell ⟨bx, 1, none⟩ (.int .i64 T2)).cell? ⟨cb, 1, none⟩ = some (.map (some mb)) := by rw [cell_blk j7.blk]; rfl
  all_goals have k7w : Keep S w (w'.setCell ⟨bx, 1, none⟩ (.int .i64 T2)) := k6.trans' k7 (fun _ _ e => e) (fun i hi e => by omega)
  all_goals have HJ7 := Lib.hid j7
  all_goals have HK7 := Lib.hid k7w
  all_goals clear j6 k6 b6 b7 j7 k7 k7w
  all_goals go_wp2_with fail
  all_goals clear e6 f6
  all_goals generalize w'.setCell ⟨bx, 1, none⟩ (.int .i64 T2) = W8 at q0 q1 q2 HJ7 HK7 ⊢
  all_goals have j8 := HJ7.out.keep0 (Keep.refl (fun _ => False) W8).drew
  all_goals obtain ⟨W9, hupd, hm9, hk9⟩ := MapP.update Try.underlying9 Try.underlying74 j8.map nm hnm (by rw [length_mapV]; show c.notes.length < maxLen; unfold maxLen; omega) (.agg #[.int .i64 born, .int .i64 T2])
  all_goals have j9 := j8.set' (nm := nm.data.toList) (n := (born, T2)) hm9 hk9 ⟨HNB.out.1, HTI.out⟩ hmany
  all_goals have hfin : ColdPost cb sb mb f S (({ c with o := c.o.op } : CS).set nm.data.toList (born, T2)) w W9 := ⟨S, j9, ((HK7.out.drew).mono (fun _ _ e => .inl e)).trans' hk9 (fun _ _ e => e) (fun _ _ e => .inr (.inr e)), fun x e => .inl e⟩
  all_goals have HFIN := Lib.hid hfin
  all_goals clear hfin j8 j9 hm9 hk9
  all_goals go_region
  all_goals go_wp2
  all_goals go_ret
  all_goals exact ⟨rfl, HFIN.out⟩
end Go.Proofs.Ytgnigkghkldcfaa

/-! cold: Fail; New where there can be no such store. -/
namespace Go.Proofs.Ytgnigkghkldcfaa
open Go.RowKit Go.Proofs Go.Lib

def CS.failed (c : CS) (nm : Bs) (now : Int) : Bool := match lk c.notes nm with | none => false | some n => decide (stateT c.life n.2 (heldT now) = 1)
def CS.fail (c : CS) (nm : Bs) (now : Int) : CS := if c.failed nm now = true then c.set nm ((c.noteOf nm).1, -1) else c

theorem creq_any {w : World} {cb sb mb : Nat} {f : Value} {S : Nat → Prop} {c : CS} (h : ColdAt w cb sb mb f S c) (hl : c.o.left ≠ 0) (ho : c.o.ops < 4611686018427387904) (hmany : c.notes.length ≤ 4096) (nm : ByteArray) (hnm : nm.size ≤ maxLen) (now : Int) (hn : -9223372036854775808 ≤ now ∧ now ≤ 9223372036854775807) (wait : Int) (hw : -9223372036854775808 ≤ wait ∧ wait ≤ 9223372036854775807) :
    Calls Try.prog 46 #[.pointer (some ⟨cb, 0, none⟩), .string nm, .int .i64 now, .int .i64 wait] w fun e w' => e = .returned (.int .i64 (c.reqCode nm.data.toList now wait)) ∧ ColdPost cb sb mb f S (c.req nm.data.toList now wait) w w' := by
  cases ha : c.asked nm.data.toList now wait with
  | false => exact creq_no h hl ho nm hnm now hn wait hw ha
  | true => exact creq_yes h hl ho hmany nm hnm now hn wait hw ha

set_option maxRecDepth 100000 in
set_option maxHeartbeats 1000000 in
theorem cfail_any {w : World} {cb sb mb : Nat} {f : Value} {S : Nat → Prop} {c : CS} (h : ColdAt w cb sb mb f S c) (hmany : c.notes.length ≤ 4096) (nm : ByteArray) (hnm : nm.size ≤ maxLen) (now : Int) (hn : -9223372036854775808 ≤ now ∧ now ≤ 9223372036854775807) :
    Calls Try.prog 49 #[.pointer (some ⟨cb, 0, none⟩), .string nm, .int .i64 now] w fun e w' => e = .returned (.bool (c.failed nm.data.toList now)) ∧ ColdAt w' cb sb mb f S (c.fail nm.data.toList now) ∧ Keep (· = mb) w w' := by
  have c1 : w.cell? ⟨cb, 1, none⟩ = some (.map (some mb)) := by rw [cell_blk h.blk]; rfl
  have hlk := MapP.look_ok Try.underlying9 Try.underlying74 h.map nm hnm (zero_note w)
  rw [lk_mapV] at hlk
  cases hln : lk c.notes nm.data.toList with
  | none =>
    rw [hln] at hlk
    simp only [Option.map_none, Option.getD_none, Option.isSome_none] at hlk
    have e1 : c.failed nm.data.toList now = false := by unfold CS.failed; rw [hln]
    have e2 : c.fail nm.data.toList now = c := by unfold CS.fail; rw [if_neg (by rw [e1]; decide)]
    rw [e1, e2]
    have H := Lib.hid h
    clear h hln e1 e2
    go_enter Try.func49, Try.ntmps49
    go_wp2_with fail
    go_quiet (fail)
    go_wp2
    go_ret
    have k : Keep (fun _ => False) w ((w.alloc (.cells #[.int .i64 0, .int .i64 0] 146)).drewN nq) := ((Keep.refl _ _).alloc _).drewN nq
    exact ⟨rfl, H.out.keep0 k, k.mono (fun _ _ e => e.elim)⟩
  | some n =>
    rw [hln] at hlk
    simp only [Option.map_some, Option.getD_some, Option.isSome_some, noteV] at hlk
    have hno : c.noteOf nm.data.toList = n := by unfold CS.noteOf; rw [hln]; rfl
    obtain ⟨born, done⟩ := n
    dsimp only at hlk
    have ka : Keep (fun _ => False) w (w.alloc (.cells #[.int .i64 born, .int .i64 done] 146)).drew := ((Keep.refl _ _).alloc _).drew
    obtain ⟨Y, hY⟩ : ∃ Y, Y = stateT c.life done (heldT now) := ⟨_, rfl⟩
    obtain ⟨T, hT⟩ : ∃ T, T = heldT now := ⟨_, rfl⟩
    have htm := h.ok.times _ (lk_mem hln)
    have HD := Lib.hid (show ∀ W, Calls Try.prog 79 #[.int .i64 now] W fun e w' => e = .returned (.int .i64 T) ∧ W = w' from fun W => hT ▸ held_any now W hn)
    have HC := Lib.hid (show Calls Try.prog 83 #[.pointer (some ⟨cb, 0, none⟩), .agg #[.int .i64 born, .int .i64 done], .int .i64 T] (w.alloc (.cells #[.int .i64 born, .int .i64 done] 146)).drew fun e w' => e = .returned (.int .i64 Y) ∧ Keep (fun _ => False) (w.alloc (.cells #[.int .i64 born, .int .i64 done] 146)).drew w' by
      rw [hY, hT]; exact state_any (ka.heap h.blk id) born done (heldT now) htm.2 h.ok.life)
    have hfa : c.failed nm.data.toList now = decide (Y = 1) := by unfold CS.failed; rw [hln, hY]
    have hfl : c.fail nm.data.toList now = if Y = 1 then c.set nm.data.toList (born, -1) else c := by
      unfold CS.fail; rw [hfa, hno]
      by_cases hy : Y = 1
      · rw [if_pos (by simpa using hy), if_pos hy]
      · rw [if_neg (by simpa using hy), if_neg hy]
    rw [hfa, hfl]
    have b6 := alloc_new w (.cells #[.int .i64 born, .int .i64 done] 146)
    have e0 : (w.alloc (.cells #[.int .i64 born, .int .i64 done] 146)).drew.cell? ⟨w.heap.size, 0, none⟩ = some (.int .i64 born) := by rw [cell_blk ((Keep.refl (fun _ => False) _).drew.heap b6 id)]; rfl
    have e1 : (w.alloc (.cells #[.int .i64 born, .int .i64 done] 146)).drew.cell? ⟨w.heap.size, 1, none⟩ = some (.int .i64 done) := by rw [cell_blk ((Keep.refl (fun _ => False) _).drew.heap b6 id)]; rfl
    have b7 := (Keep.refl (fun _ => False) (w.alloc (.cells #[.int .i64 born, .int .i64 done] 146))).drew.heap b6 id
    obtain ⟨bx, hbx⟩ : ∃ b, b = w.heap.size := ⟨_, rfl⟩
    have hz := h.lt
    have hSl := h.st.lt
    have hbxc : bx ≠ cb := by omega
    have hbxm : bx ≠ mb := by omega
    have hbxn : ¬ S bx := fun e => by have := hSl _ e; omega
    rw [← hbx] at e0 e1 b7
    have H := Lib.hid h; have HKA := Lib.hid ka; have HB7 := Lib.hid b7; have HBX := Lib.hid hbx; have HTM := Lib.hid htm.1; have HSL := Lib.hid hSl
    clear h hln ka hY hT b6 hno htm hfa hfl b7 hbx hz hSl
    by_cases hy : Y = 1
    · subst hy
      rw [if_pos rfl]
      go_enter Try.func49, Try.ntmps49
      go_wp2_with fail
      rw [← HBX.out]
      go_region_with (first | (go_at_call 79; refine (HD.out _).mono ?_; rintro e w' ⟨rfl, rfl⟩) | (go_at_call 83; refine HC.out.mono ?_; rintro e w' ⟨rfl, kY⟩; have HKY := Lib.hid kY; clear kY))
      all_goals have j6 := H.out.keep0 (HKA.out.trans HKY.out)
      all_goals have b6 := HKY.out.heap HB7.out id
      all_goals have f6 := frozen_blk b6 1
      all_goals have e6 := cell_blk b6 1
      all_goals simp at e6
      all_goals have k7 : Keep (· = bx) w' (w'.setCell ⟨bx, 1, none⟩ (.int .i64 (-1))) := (Keep.refl (· = bx) _).setCell (p := ⟨bx, 1, none⟩) (fun _ => rfl) _
      all_goals have b7 : (w'.setCell ⟨bx, 1, none⟩ (.int .i64 (-1))).heap[bx]? = some (.cells #[.int .i64 born, .int .i64 (-1)] 146 (0, 0)) := by rw [set_blk b6 1]; rfl
      all_goals have j7 := (j6.keep k7 (fun x e => by rw [e]; exact ⟨hbxn, hbxc, hbxm⟩))
      all_goals have q0 : (w'.setCell ⟨bx, 1, none⟩ (.int .i64 (-1))).cell? ⟨bx, 0, none⟩ = some (.int .i64 born) := by rw [cell_blk b7]; rfl
      all_goals have q1 : (w'.setCell ⟨bx, 1, none⟩ (.int .i64 (-1))).cell? ⟨bx, 1, none⟩ = some (.int .i64 (-1)) := by rw [cell_blk b7]; rfl
      all_goals have q2 : (w'.setCell ⟨bx, 1, none⟩ (.int .i64 (-1))).cell? ⟨cb, 1, none⟩ = some (.map (some mb)) := by rw [cell_blk j7.blk]; rfl
      all_goals have k7w : Keep (fun _ => False) w (w'.setCell ⟨bx, 1, none⟩ (.int .i64 (-1))) := (HKA.out.trans HKY.out).trans' k7 (fun _ _ e => e) (fun i hi e => by have := HBX.out; omega)
      all_goals have HJ7 := Lib.hid j7
      all_goals have HK7 := Lib.hid k7w
      all_goals clear j6 b6 b7 j7 k7 k7w e0 e1
      all_goals go_wp2_with fail
      all_goals clear e6 f6
      all_goals generalize w'.setCell ⟨bx, 1, none⟩ (.int .i64 (-1)) = W8 at q0 q1 q2 HJ7 HK7 ⊢
      all_goals have j8 := HJ7.out.keep0 (Keep.refl (fun _ => False) W8).drew
      all_goals obtain ⟨W9, hupd, hm9, hk9⟩ := MapP.update Try.underlying9 Try.underlying74 j8.map nm hnm (by rw [length_mapV]; show c.notes.length < maxLen; unfold maxLen; omega) (.agg #[.int .i64 born, .int .i64 (-1)])
      all_goals have j9 := j8.set' (nm := nm.data.toList) (n := (born, -1)) hm9 hk9 ⟨HTM.out, by show (-1 : Int) ≤ -1; omega, by show (-1 : Int) ≤ _; omega⟩ hmany
      all_goals have hkf : Keep (· = mb) w W9 := (HK7.out.drew.mono (fun _ _ e => e.elim)).trans hk9
      all_goals have HFIN := Lib.hid j9
      all_goals have HKF := Lib.hid hkf
      all_goals clear hkf j8 j9 hm9 hk9
      all_goals go_region
      all_goals go_wp2
      all_goals go_ret
      all_goals exact ⟨rfl, HFIN.out, HKF.out⟩
    · have hyb : (Y == 1) = false := by simpa using hy
      rw [if_neg hy, decide_eq_false hy]
      clear hy
      go_enter Try.func49, Try.ntmps49
      go_wp2_with fail
      rw [← HBX.out]
      go_region_with (first | (go_at_call 79; refine (HD.out _).mono ?_; rintro e w' ⟨rfl, rfl⟩) | (go_at_call 83; refine HC.out.mono ?_; rintro e w' ⟨rfl, kY⟩; have HKY := Lib.hid kY; clear kY))
      all_goals go_wp2
      all_goals go_ret
      all_goals exact ⟨rfl, H.out.keep0 (HKA.out.trans HKY.out), (HKA.out.trans HKY.out).mono (fun _ _ e => e.elim)⟩

set_option maxRecDepth 100000 in
theorem cnew_arg (quota jobs life least : Int) (w : World) (h : jobs < 1 ∨ 64 < jobs ∨ life < 1 ∨ 1125899906842624 < life ∨ least < 0 ∨ 1125899906842624 < least) :
    Calls Try.prog 43 #[.int .i64 quota, .int .i64 jobs, .int .i64 life, .int .i64 least] w fun e w' => e = .returned (.tuple #[.pointer none, .int .i64 1]) ∧ w = w' := by
  rcases h with h | h | h | h | h | h
  all_goals go_enter Try.func43, Try.ntmps43
  all_goals go_wp2
  all_goals go_ret2
  all_goals exact ⟨rfl, rfl⟩

set_option maxRecDepth 100000 in
theorem cnew_quota (quota jobs life least : Int) (w : World) (hq : quota < 0) (hj : 1 ≤ jobs ∧ jobs ≤ 64) (hl : 1 ≤ life ∧ life ≤ 1125899906842624) (he : 0 ≤ least ∧ least ≤ 1125899906842624) :
    Calls Try.prog 43 #[.int .i64 quota, .int .i64 jobs, .int .i64 life, .int .i64 least] w fun e w' => e = .returned (.tuple #[.pointer none, .int .i64 1]) ∧ w = w' := by
  obtain ⟨hj1, hj2⟩ := hj; obtain ⟨hl1, hl2⟩ := hl; obtain ⟨he1, he2⟩ := he
  have HN := Lib.hid (new_arg quota w hq)
  clear hq
  go_enter Try.func43, Try.ntmps43
  go_wp2_with fail
  refine HN.out.mono ?_
  rintro e W1 ⟨rfl, rfl⟩
  go_wp2
  go_ret2
  exact ⟨rfl, rfl⟩
end Go.Proofs.Ytgnigkghkldcfaa
