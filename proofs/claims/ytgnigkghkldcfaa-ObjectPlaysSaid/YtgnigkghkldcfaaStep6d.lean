/-
  coldstorelaw06.step: Get.
-/
import Derived.Test.YtgnigkghkldcfaaStep6c
namespace Go.Proofs.Ytgnigkghkldcfaa
open Go.RowKit Go.Proofs Go.Lib

/-- a row of bytes of the call's own, being turned -/
structure XorI (W3 : World) (gb n : Nat) (W : World) : Prop where
  row : ∃ cur : Array Value, W.heap[gb]? = some (.cells cur 5 (0, 0)) ∧ ∀ j, j < n → ∃ x, cur[j]? = some (.int .u8 x)
  keep : Keep (· = gb) W3 W
theorem XorI.start {W : World} {base : Nat} {gb n c : Nat} {l : Bs} (h : W.ownsRow base 5 1 (.slice (some ⟨gb, 0, none⟩) n c) n (bytesV l)) : XorI W gb n W := by
  obtain ⟨h1, h2⟩ := h
  rcases h2 with ⟨e, _⟩ | ⟨g, cap, cur, e, _, hh, _, _, _, ht⟩
  · cases e
  · simp only [Value.slice.injEq, Option.some.injEq, Addr.mk.injEq] at e
    obtain ⟨⟨rfl, _⟩, _, rfl⟩ := e
    refine ⟨⟨cur, hh, fun j hj => ?_⟩, Keep.refl _ _⟩
    have hl : j < (bytesV l).length := by omega
    have hl2 : j < l.length := by simpa [bytesV] using hl
    have e1 : (bytesV l)[j]? = some (.int .u8 (l[j].toNat : Int)) := by simp [bytesV, hl2]
    rw [← ht, List.getElem?_take, if_pos (by omega), Array.getElem?_toList] at e1
    exact ⟨_, e1⟩
theorem XorI.cell {W3 : World} {gb n : Nat} {W : World} (h : XorI W3 gb n W) {k : Nat} (hk : k < n) : ∃ x, W.cell? ⟨gb, k, none⟩ = some (.int .u8 x) ∧ W.frozen? ⟨gb, k, none⟩ = false := by
  obtain ⟨cur, hh, hx⟩ := h.row
  obtain ⟨x, e⟩ := hx k hk
  exact ⟨x, by rw [cell_blk hh]; exact e, frozen_blk hh k⟩
theorem XorI.set {W3 : World} {gb n : Nat} {W : World} (h : XorI W3 gb n W) {k : Nat} (hk : k < n) (y : Int) : XorI W3 gb n (W.setCell ⟨gb, k, none⟩ (.int .u8 y)) := by
  obtain ⟨cur, hh, hx⟩ := h.row
  refine ⟨⟨_, set_blk hh k _, fun j hj => ?_⟩, h.keep.setCell (p := ⟨gb, k, none⟩) (fun _ => rfl) _⟩
  by_cases e : k = j
  · subst e
    obtain ⟨x, e2⟩ := hx k hk
    have hs : k < cur.size := (Array.getElem?_eq_some_iff.1 e2).1
    exact ⟨y, by simp [hs]⟩
  · obtain ⟨x, e2⟩ := hx j hj
    exact ⟨x, by rw [Array.getElem?_setIfInBounds, if_neg e]; exact e2⟩

set_option maxRecDepth 100000 in
set_option maxHeartbeats 8000000 in
theorem step_get {w : World} {sb : Nat} {f : Value} {S RS : Nat → Prop} {s : OS} {v : Value} {name : Bs} {ba : Option Addr} {bn bc : Nat} {b : Bs} (hs : St w sb f S s) (hr : Rf w v RS s) (hd : ∀ x, RS x → ¬ S x ∧ x < w.heap.size) (hb : BytesAt w (.slice ba bn bc) b) (hbr : ∀ x, 0 < b.length → vblk (.slice ba bn bc) = some x → RS x)
    (hl : s.left ≠ 0) (hl1 : -1 ≤ s.left ∧ s.left ≤ 9223372036854775807) (ho : s.ops < 4611686018427387904) (hn : name.length ≤ 100) :
    Calls Try.prog 24 #[.pointer (some ⟨sb, 0, none⟩), v, .agg #[.int .i64 2, .string ⟨name.toArray⟩, .slice ba bn bc]] w (StepPost sb f S RS s.op w) := by
  obtain ⟨ra, rn, rc, fa, fc, L, rfl, hrn, hr⟩ := hr.agg
  obtain ⟨q, o, l, fn, hq⟩ : ∃ q o l fn, refV (.slice ra rn rc) (.slice fa s.faults.length fc) s = .agg #[.slice ra rn rc, .int .i64 q, .int .i64 o, .int .i64 l, .slice fa fn fc] ∧ fn = s.faults.length := ⟨_, _, _, _, rfl, rfl⟩
  obtain ⟨hq, hfn⟩ := hq
  rw [hq]
  rw [← hfn] at hr hq
  have j := stj_laid (kind := 2) (name := name) hs hr hq hd hb hbr
  have hok := hs.ok
  have hsz : (⟨name.toArray⟩ : ByteArray).size ≤ maxLen := by unfold maxLen; simp [ByteArray.size]; omega
  have J := Lib.hid j
  clear j hs hr hd hb hbr hq hfn hrn
  go_enter Try.func24, Try.ntmps24
  go_wp2_with fail
  refine (J.out.st.get hl ho ⟨name.toArray⟩ hsz).mono ?_
  rintro e W1 ⟨xv, rfl, h1, t1, ho1⟩
  have j1 := J.out.turn h1 t1
  obtain ⟨⟨a0, a1, a2, a3, a4⟩, -⟩ := five_cells j1.ax
  obtain ⟨b0, b1, b2⟩ := j1.cells
  have J1 := Lib.hid j1
  obtain ⟨c, hc⟩ : ∃ c, c = s.getCode name := ⟨_, rfl⟩
  have ec : s.getCode (⟨name.toArray⟩ : ByteArray).data.toList = c := hc.symm
  rw [ec]
  obtain ⟨bs, hbs⟩ : ∃ bs, bs = s.getBytes name := ⟨_, rfl⟩
  have eb : s.getBytes (⟨name.toArray⟩ : ByteArray).data.toList = bs := hbs.symm
  rw [eb] at ho1
  obtain ⟨xa, xc, rfl⟩ := own_slice ho1
  obtain ⟨xn, hxn⟩ : ∃ n, n = bs.length := ⟨_, rfl⟩
  rw [← hxn] at ho1 ⊢
  have hxl : xn ≤ maxLen := by obtain ⟨_, a, c, e, h2, h3, _⟩ := (Sl.of_owns ho1).1; cases e; omega
  unfold maxLen at hxl
  have hno : ∀ x, vblk (.slice xa xn xc) = some x → w.heap.size + 3 ≤ x ∧ ¬ S x ∧ ¬ RS x ∧ x < W1.heap.size := fun x e => by
    have h2 := own_lt ho1 x e
    have h3 := lt_blk J.out.cr
    exact ⟨by omega, fun h => by have := J.out.st.lt x h; omega, fun h => by have := J.out.rl x h; omega, h2.2⟩
  have HC := Lib.hid hc; have HB := Lib.hid hbs; have HXN := Lib.hid hxn; have HO := Lib.hid ho1; have HNO := Lib.hid hno
  clear j1 h1 t1 ec hc eb hbs ho1 hxn hno
  go_wp2_with fail
  refine (r6get_any J1.out.ref J1.out.rl hl hl1 ho hok ⟨name.toArray⟩).mono ?_
  rintro e W2 ⟨v', ov, rfl, hr2, hov, hovr, k2⟩
  have j2 := J1.out.still k2
  obtain ⟨ra2, rn2, rc2, q2, o2, l2, fa2, fn2, fc2, rfl⟩ := hr2.lit
  have ec : s.getCode (⟨name.toArray⟩ : ByteArray).data.toList = c := HC.out.symm
  have eb : s.getBytes (⟨name.toArray⟩ : ByteArray).data.toList = bs := HB.out.symm
  rw [ec]
  rw [eb] at hov hovr
  obtain ⟨oa, oc, rfl⟩ : ∃ a c, ov = .slice a bs.length c := let ⟨_, a, c, e, _⟩ := hov; ⟨a, c, e⟩
  rw [← HXN.out]
  have fin : ∀ W9, Keep (fun x => x = w.heap.size + 2 ∨ vblk (.slice xa xn xc) = some x) W2 W9 → StepPost sb f S RS s.op w (.returned (.tuple #[.agg #[.slice ra2 rn2 rc2, .int .i64 q2, .int .i64 o2, .int .i64 l2, .slice fa2 fn2 fc2], .bool true])) W9 := fun W9 k9 =>
    J1.out.fin' k2 hr2 (fun x e => .inl e) (fun x e => e) k9 (fun x e => e.elim (fun e => ⟨by omega, (J1.out.nx x (by omega) (by omega)).1, (J1.out.nx x (by omega) (by omega)).2⟩) (fun e => ⟨by have := (HNO.out x e).1; omega, (HNO.out x e).2.1, (HNO.out x e).2.2.1⟩))
  have HFIN := Lib.hid fin; have HOV := Lib.hid hov; have J2 := Lib.hid j2
  have same : ∀ Y, Calls Try.prog 36 #[.slice xa xn xc, .slice oa xn oc] (W2.alloc Y) fun e w' => e = .returned (.bool true) ∧ (W2.alloc Y) = w' := fun Y => by
    have kY : Keep (fun _ => False) W2 (W2.alloc Y) := (Keep.refl _ _).alloc _
    have h1 : BytesAt (W2.alloc Y) (.slice xa xn xc) bs := by rw [HXN.out]; have := (Sl.of_owns HO.out).1; rw [HXN.out] at this; exact Sl.keep this (k2.trans kY) (fun _ _ _ e => e)
    have h2 : BytesAt (W2.alloc Y) (.slice oa xn oc) bs := by rw [HXN.out]; exact Sl.keep hov kY (fun _ _ _ e => e)
    have := same_any h1 h2
    rw [show (bs == bs) = true from by simp] at this
    exact this
  have HS := Lib.hid same
  have K2 := Lib.hid k2
  clear j2 hr2 k2 fin ec eb hov hovr same
  go_wp2_with fail
  refine (HS.out _).mono ?_
  rintro e W3 ⟨rfl, rfl⟩
  have kY : Keep (fun _ => False) W2 (W2.alloc (.cells #[.slice ra2 rn2 rc2, .int .i64 q2, .int .i64 o2, .int .i64 l2, .slice fa2 fn2 fc2] 35)) := (Keep.refl _ _).alloc _
  have ho3 := own_keep HO.out (K2.out.trans kY) (fun _ _ e => e)
  have hyb := alloc_new W2 (.cells #[.slice ra2 rn2 rc2, .int .i64 q2, .int .i64 o2, .int .i64 l2, .slice fa2 fn2 fc2] 35)
  have hcr3 := alloc_blk J2.out.cr (.cells #[.slice ra2 rn2 rc2, .int .i64 q2, .int .i64 o2, .int .i64 l2, .slice fa2 fn2 fc2] 35)
  have hny : ∀ x, vblk (.slice xa xn xc) = some x → x ≠ W2.heap.size := fun x e => by have := (HNO.out x e).2.2.2; have := K2.out.size; omega
  obtain ⟨W3, hW3⟩ : ∃ W3, W3 = W2.alloc (.cells #[.slice ra2 rn2 rc2, .int .i64 q2, .int .i64 o2, .int .i64 l2, .slice fa2 fn2 fc2] 35) := ⟨_, rfl⟩
  rw [← hW3] at kY ho3 hyb hcr3
  have HW3 := Lib.hid hW3; have KY := Lib.hid kY; have HO3 := Lib.hid ho3; have HYB := Lib.hid hyb; have HCR3 := Lib.hid hcr3; have HNY := Lib.hid hny
  clear kY ho3 hyb hcr3 hW3 hny
  have hst : ∀ gb, xa = some ⟨gb, 0, none⟩ → XorI W3 gb xn W3 := fun gb e => by subst e; exact XorI.start HO3.out
  have HST := Lib.hid hst
  clear hst
  go_wp2
  go_loopg [94] xn (fun g v94 wr => ∃ k : Nat, k ≤ xn ∧ g = xn - k ∧ v94 = .int .i64 k ∧ (∀ gb, xa = some ⟨gb, 0, none⟩ → XorI W3 gb xn wr) ∧ Keep (fun x => vblk (.slice xa xn xc) = some x) W3 wr)
  case atStart => exact ⟨0, Nat.zero_le _, rfl, rfl, by rw [← HW3.out]; exact HST.out, by rw [← HW3.out]; exact Keep.refl _ _⟩
  case round =>
    obtain ⟨k, hk, hg, rfl, hx, hkr⟩ := hrel
    by_cases hlt : k < xn
    · obtain ⟨gb, rfl⟩ : ∃ gb, xa = some ⟨gb, 0, none⟩ := by
        rcases HO3.out.2 with ⟨e, h0⟩ | ⟨g, cap, cur, e, _⟩
        · omega
        · cases e; exact ⟨_, rfl⟩
      have hX := hx gb rfl
      obtain ⟨x, cx, fx⟩ := hX.cell hlt
      have hset := hX.set hlt
      have i1 : (0 : Int) ≤ k := by omega
      have i2 : (k : Int) < xn := by omega
      have hxc : xn ≤ xc := by obtain ⟨_, a, c, e, h2, _⟩ := (Sl.of_owns HO3.out).1; cases e; exact h2
      have HSET := Lib.hid hset; have HG := Lib.hid hg; have HK := Lib.hid hkr
      clear hset hg hkr hx hX
      go_wp2
      go_roundg (xn - (k + 1))
      case measure => have := HG.out; omega
      case rel => exact ⟨k + 1, by omega, rfl, by go_num, fun gb' e => by cases e; exact HSET.out _, HK.out.setCell (p := ⟨gb, k, none⟩) (fun _ => rfl) _⟩
    · have hyb := HYB.out
      have hcr := HCR3.out
      have hyb2 := hkr.heap hyb (fun e => HNY.out _ e rfl)
      have hcr2 := hkr.heap hcr (fun e => by have := (HNO.out _ e).1; omega)
      obtain ⟨⟨y0, y1, y2, y3, y4⟩, -⟩ := five_cells hyb2
      have HCR := Lib.hid hcr2; have HK := Lib.hid hkr
      clear hyb hcr hyb2 hcr2 hkr hx hg
      go_wp2_with (refine wpList_store_box rfl 35 (.tmp 6) (.tmp 104) rfl (w.heap.size + 1 + 1) #[.slice ra2 rn2 rc2, .int .i64 q2, .int .i64 o2, .int .i64 l2, .slice fa2 fn2 fc2] (by rfl) (by rfl) HCR.out (by kernel_rfl) rfl (five_one _ _ _ _ _ _ _ _ _) ?_; intro W9 hA9 kA9)
      refine bodyPost_ret (results_cell_tmp1 _ _ _ _ _ _ _ (by rfl) hA9 Try.underlying35 rfl (by kernel_rfl) rfl) rfl ?_
      exact HFIN.out _ (((KY.out.mono (fun _ _ e => e.elim)).trans (HK.out.mono (fun _ _ e => .inr e))).trans (kA9.mono (fun _ _ e => .inl e)))
end Go.Proofs.Ytgnigkghkldcfaa
