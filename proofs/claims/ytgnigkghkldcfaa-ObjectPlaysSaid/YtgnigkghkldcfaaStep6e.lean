/-
  coldstorelaw06.step: Put. (Printed by wip/gen/step6put.py.)
-/
import Derived.Test.YtgnigkghkldcfaaStep6d
namespace Go.Proofs.Ytgnigkghkldcfaa
open Go.RowKit Go.Proofs Go.Lib

/-- coldstoreref06.Put, behind whatever beginning -/
theorem r6put_any {w : World} {v : Value} {RS : Nat → Prop} {s : OS} (h : Rf w v RS s) (hRS : ∀ b, RS b → b < w.heap.size) (hl : s.left ≠ 0) (hl1 : -1 ≤ s.left ∧ s.left ≤ 9223372036854775807) (ho : s.ops < 4611686018427387904) (hok : s.Ok) (nm : ByteArray) (hnm : nm.size ≤ maxLen) (ba : Option Addr) (bc : Nat) (b : Bs)
    (hbv : BytesAt w (.slice ba b.length bc) b) (hbr : ∀ x, 0 < b.length → vblk (.slice ba b.length bc) = some x → RS x) :
    Calls Try.prog 64 #[v, .string nm, .slice ba b.length bc] w fun e w' => ∃ v', e = .returned (.tuple #[v', .int .i64 (s.putCode nm.data.toList b)]) ∧ Rf w' v' (fun x => RS x ∨ (w.heap.size ≤ x ∧ x < w'.heap.size)) (s.put nm.data.toList b) ∧ Keep (fun _ => False) w w' := by
  by_cases hc : s.code = 0
  · refine (r6put_rest h hRS hl hl1 ho hok nm hnm ba bc b hbv hbr hc).mono ?_
    rintro e w' (⟨h0, v', h1, h2, h3⟩ | ⟨h0, v', h1, h2, h3⟩)
    · refine ⟨v', h1, ?_, h3⟩
      unfold OS.put
      rw [if_neg h0]
      exact h2.mono (fun _ => .inl)
    · exact ⟨v', by rw [h0]; exact h1, h2, h3⟩
  · refine (r6put_code h hRS hl hl1 ho hok nm ba b.length bc hc).mono ?_
    rintro e w' ⟨v', h1, h2, h3⟩
    have hp : s.putCode nm.data.toList b = s.code := by unfold OS.putCode; rw [if_pos hc]
    refine ⟨v', by rw [hp]; exact h1, ?_, h3⟩
    unfold OS.put
    rw [if_neg (by rw [hp]; exact hc)]
    exact h2.mono (fun _ => .inl)

set_option maxRecDepth 100000 in
set_option maxHeartbeats 8000000 in
theorem step_put0 {w : World} {sb : Nat} {f : Value} {S RS : Nat → Prop} {s : OS} {v : Value} {name : Bs} {ba : Option Addr} {bn bc : Nat} {b : Bs} (hs : St w sb f S s) (hr : Rf w v RS s) (hd : ∀ x, RS x → ¬ S x ∧ x < w.heap.size) (hb : BytesAt w (.slice ba bn bc) b) (hbr : ∀ x, 0 < b.length → vblk (.slice ba bn bc) = some x → RS x)
    (hl : s.left ≠ 0) (hl1 : -1 ≤ s.left ∧ s.left ≤ 9223372036854775807) (ho : s.ops < 4611686018427387904) (hn : name.length ≤ 100) (hbl : b.length ≤ 200) :
    Calls Try.prog 24 #[.pointer (some ⟨sb, 0, none⟩), v, .agg #[.int .i64 0, .string ⟨name.toArray⟩, .slice ba bn bc]] w (StepPost sb f S RS (s.put name b) w) := by
  obtain ⟨ra, rn, rc, fa, fc, L, rfl, hrn, hr⟩ := hr.agg
  obtain ⟨q, o, l, fn, hq⟩ : ∃ q o l fn, refV (.slice ra rn rc) (.slice fa s.faults.length fc) s = .agg #[.slice ra rn rc, .int .i64 q, .int .i64 o, .int .i64 l, .slice fa fn fc] ∧ fn = s.faults.length := ⟨_, _, _, _, rfl, rfl⟩
  obtain ⟨hq, hfn⟩ := hq
  rw [hq]
  rw [← hfn] at hr hq
  have j := stj_laid (kind := 0) (name := name) hs hr hq hd hb hbr
  have hok := hs.ok
  have hsz : (⟨name.toArray⟩ : ByteArray).size ≤ maxLen := by unfold maxLen; simp [ByteArray.size]; omega
  have hbn : bn = b.length := by obtain ⟨_, a, c, e, _⟩ := hb; cases e; rfl
  have J := Lib.hid j; have HBN := Lib.hid hbn
  have hbnl : bn ≤ 200 := by omega
  have own0 := World.ownsRow_made (e := 5) (size := 1) (((w.alloc (.cells #[.slice ra rn rc, .int .i64 q, .int .i64 o, .int .i64 l, .slice fa fn fc] 35)).alloc (.cells #[.int .i64 0, .string ⟨name.toArray⟩, .slice ba bn bc] 38)).alloc (.cells #[.slice none 0 0, .int .i64 0, .int .i64 0, .int .i64 0, .slice none 0 0] 35)) #[] 0 (Nat.le_refl _) (Nat.zero_le _) rfl
  simp only [World.size_alloc] at own0
  have hsrc : Sl ((((w.alloc (.cells #[.slice ra rn rc, .int .i64 q, .int .i64 o, .int .i64 l, .slice fa fn fc] 35)).alloc (.cells #[.int .i64 0, .string ⟨name.toArray⟩, .slice ba bn bc] 38)).alloc (.cells #[.slice none 0 0, .int .i64 0, .int .i64 0, .int .i64 0, .slice none 0 0] 35)).alloc (.cells #[] 5)) 1 (.slice ba bn bc) bn (bytesV b) := by
    have h1 := j.bb
    unfold BytesAt at h1
    rw [← hbn] at h1
    exact Sl.keep h1 ((Keep.refl (fun _ => False) _).alloc _) (fun _ _ _ e => e)
  have n3 : w.heap.size + 1 + 1 + 1 ≤ ((((w.alloc (.cells #[.slice ra rn rc, .int .i64 q, .int .i64 o, .int .i64 l, .slice fa fn fc] 35)).alloc (.cells #[.int .i64 0, .string ⟨name.toArray⟩, .slice ba bn bc] 38)).alloc (.cells #[.slice none 0 0, .int .i64 0, .int .i64 0, .int .i64 0, .slice none 0 0] 35)).alloc (.cells #[] 5)).heap.size := by simp
  have n1 : 0 + bn ≤ maxLen := by unfold maxLen; omega
  have n2 : (0 + bn) * 1 ≤ 140737488355328 := by omega
  obtain ⟨i0, hi, hz0, hz1, hz2⟩ := info_parts info_byte
  have h00 : ∀ x, vblk (.slice (some ⟨w.heap.size + 1 + 1 + 1, 0, none⟩) 0 0) = some x → (((w.alloc (.cells #[.slice ra rn rc, .int .i64 q, .int .i64 o, .int .i64 l, .slice fa fn fc] 35)).alloc (.cells #[.int .i64 0, .string ⟨name.toArray⟩, .slice ba bn bc] 38)).alloc (.cells #[.slice none 0 0, .int .i64 0, .int .i64 0, .int .i64 0, .slice none 0 0] 35)).heap.size ≤ x := fun x e => by simp [vblk] at e; simp; omega
  have OWN0 := Lib.hid own0; have SRC0 := Lib.hid hsrc; have N1 := Lib.hid n1; have N2 := Lib.hid n2; have N3 := Lib.hid n3; have H00 := Lib.hid h00
  have hone := bytesV_one b
  have ONE := Lib.hid hone
  have h3 := lt_blk j.cr
  have HZ3 := Lib.hid h3
  clear j hs hr hd hb hbr hq hfn hrn hbn h3 own0 hsrc n1 n2 n3 h00 hone
  go_enter Try.func24, Try.ntmps24
  go_wp2_with (at_builtin; refine wpList_append_sl rfl (.tmp 33) (.tmp 35) 36 rfl (w.heap.size + 1 + 1 + 1) 5 i0 _ 1 1 Try.underlying36 hi hz0 hz1 hz2 rfl (by decide) (.slice (some ⟨w.heap.size + 1 + 1 + 1, 0, none⟩) 0 0) 0 [] rfl OWN0.out _ bn (bytesV b) rfl SRC0.out ONE.out N1.out N2.out N3.out ?_; intro ov W1 hown1 hk1 hb1; rw [Nat.zero_add, List.nil_append] at hown1; obtain ⟨xa, xc, eo, O1, KX1, B1, Z1⟩ := own_next ((Keep.refl _ _).alloc _) H00.out hown1 hk1 hb1; subst eo; clear hown1 hk1 hb1; have j1 := J.out.still KX1.out; obtain ⟨b0, b1, b2⟩ := j1.cells; have J1 := Lib.hid j1; clear j1)
  have ho1 : BytesAt W1 (.slice xa bn xc) b := by rw [HBN.out]; have := (Sl.of_owns O1.out).1; rw [HBN.out] at this; exact this
  have hno : ∀ x, vblk (.slice xa bn xc) = some x → w.heap.size + 3 ≤ x ∧ ¬ S x ∧ ¬ RS x ∧ x < W1.heap.size := fun x e => by
    have h2 := own_lt O1.out x e
    have h4 := B1.out x e
    have h3 := HZ3.out
    exact ⟨by omega, fun h => by have := J.out.st.lt x h; omega, fun h => by have := J.out.rl x h; omega, h2.2⟩
  have HO1' := O1; have HNO := Lib.hid hno
  clear hno
  refine (J1.out.st.put hl ho ⟨name.toArray⟩ hsz _ b ho1 (by omega)).mono ?_
  rintro e W2 ⟨S2, rfl, h2, t2⟩
  change St W2 sb f S2 (s.put name b) at h2
  have j2 := J1.out.turn h2 t2
  have hno2 : ∀ x, vblk (.slice xa bn xc) = some x → ¬ S2 x := fun x e => t2.not (HNO.out x e).2.1 (HNO.out x e).2.2.2
  have ho2 := own_keep HO1'.out t2.keep (fun x e => (HNO.out x e).2.1)
  obtain ⟨c, hc⟩ : ∃ c, c = s.putCode name b := ⟨_, rfl⟩
  have ec : s.putCode (⟨name.toArray⟩ : ByteArray).data.toList b = c := hc.symm
  rw [ec]
  have hst : ∀ gb, xa = some ⟨gb, 0, none⟩ → XorI W2 gb bn W2 := fun gb e => by subst e; exact XorI.start ho2
  have hxc : bn ≤ xc ∧ xc ≤ maxLen := by obtain ⟨_, a, c, e, h2, h3, _⟩ := (Sl.of_owns ho2).1; cases e; rw [HBN.out]; rw [HBN.out] at h2; exact ⟨h2, h3⟩
  have hsome : 0 < bn → ∃ gb, xa = some ⟨gb, 0, none⟩ := fun hp => by
    rcases ho2.2 with ⟨e, h0⟩ | ⟨g, cap, cur, e, _⟩
    · omega
    · cases e; exact ⟨_, rfl⟩
  have HC := Lib.hid hc; have J2 := Lib.hid j2; have HNO2 := Lib.hid hno2; have HST := Lib.hid hst; have HSOME := Lib.hid hsome
  obtain ⟨W2', hW2⟩ : ∃ W, W = W2 := ⟨_, rfl⟩
  rw [← hW2] at J2 HST
  have HW2 := Lib.hid hW2
  unfold maxLen at hxc
  obtain ⟨hx1, hx2⟩ := hxc
  clear ho1 h2 t2 j2 ho2 hc ec hst hno2 hsome hW2 b0 b1 b2
  go_wp2
  go_loopg [44] bn (fun g v44 wr => ∃ k : Nat, k ≤ bn ∧ g = bn - k ∧ v44 = .int .i64 k ∧ (∀ gb, xa = some ⟨gb, 0, none⟩ → XorI W2' gb bn wr) ∧ Keep (fun x => vblk (.slice xa bn xc) = some x) W2' wr)
  case atStart => exact ⟨0, Nat.zero_le _, rfl, rfl, by rw [← HW2.out]; exact HST.out, by rw [← HW2.out]; exact Keep.refl _ _⟩
  case round =>
    obtain ⟨k, hk, hg, rfl, hx, hkr⟩ := hrel
    by_cases hlt : k < bn
    · obtain ⟨gb, rfl⟩ := HSOME.out (by omega)
      have hX := hx gb rfl
      obtain ⟨x, cx, fx⟩ := hX.cell hlt
      have hset := hX.set hlt
      have i1 : (0 : Int) ≤ k := by omega
      have i2 : (k : Int) < bn := by omega
      have HSET := Lib.hid hset; have HG := Lib.hid hg; have HK := Lib.hid hkr
      clear hset hg hkr hx hX
      go_wp2
      go_roundg (bn - (k + 1))
      case measure => have := HG.out; omega
      case rel => exact ⟨k + 1, by omega, rfl, by go_num, fun gb' e => by cases e; exact HSET.out _, HK.out.setCell (p := ⟨gb, k, none⟩) (fun _ => rfl) _⟩
    · have j3 := J2.out.mine hkr (fun x e => ⟨HNO2.out x e, (HNO.out x e).2.2.1, (HNO.out x e).1⟩)
      obtain ⟨⟨a0, a1, a2, a3, a4⟩, -⟩ := five_cells j3.ax
      obtain ⟨b0, b1, b2⟩ := j3.cells
      have J3 := Lib.hid j3
      clear j3 hkr hx hg
      go_wp2_with fail
      rw [HBN.out]
      have hbb3 := J3.out.bb
      rw [HBN.out] at hbb3
      have hbr3 := J3.out.br
      rw [HBN.out] at hbr3
      refine (r6put_any J3.out.ref J3.out.rl hl hl1 ho hok ⟨name.toArray⟩ hsz ba bc b hbb3 hbr3).mono ?_
      rintro e W4 ⟨v', rfl, hr4, k4⟩
      have j4 := J3.out.still k4
      obtain ⟨ra2, rn2, rc2, q2, o2, l2, fa2, fn2, fc2, rfl⟩ := hr4.lit
      have ec : s.putCode (⟨name.toArray⟩ : ByteArray).data.toList b = c := HC.out.symm
      rw [ec]
      have fin : ∀ W9, Keep (· = w.heap.size + 2) W4 W9 → StepPost sb f S RS (s.put name b) w (.returned (.tuple #[.agg #[.slice ra2 rn2 rc2, .int .i64 q2, .int .i64 o2, .int .i64 l2, .slice fa2 fn2 fc2], .bool true])) W9 := fun W9 k9 =>
        J3.out.fin k4 hr4 (fun x e => e) (fun x e => .inl e) k9
      have J4 := Lib.hid j4; have HFIN := Lib.hid fin
      clear j4 hr4 k4 fin ec hbb3 hbr3
      go_wp2_with (refine wpList_store_box rfl 35 (.tmp 6) (.tmp 63) rfl (w.heap.size + 1 + 1) #[.slice ra2 rn2 rc2, .int .i64 q2, .int .i64 o2, .int .i64 l2, .slice fa2 fn2 fc2] (by rfl) (by rfl) (alloc_blk J4.out.cr _) (by kernel_rfl) rfl (five_one _ _ _ _ _ _ _ _ _) ?_; intro W9 hA9 kA9)
      refine bodyPost_ret (results_cell_tmp1 _ _ _ _ _ _ _ (by rfl) hA9 Try.underlying35 rfl (by kernel_rfl) rfl) rfl ?_
      exact HFIN.out _ (((Keep.refl _ W4).alloc _).trans kA9)

set_option maxRecDepth 100000 in
set_option maxHeartbeats 8000000 in
theorem step_put1 {w : World} {sb : Nat} {f : Value} {S RS : Nat → Prop} {s : OS} {v : Value} {name : Bs} {ba : Option Addr} {bn bc : Nat} {b : Bs} (hs : St w sb f S s) (hr : Rf w v RS s) (hd : ∀ x, RS x → ¬ S x ∧ x < w.heap.size) (hb : BytesAt w (.slice ba bn bc) b) (hbr : ∀ x, 0 < b.length → vblk (.slice ba bn bc) = some x → RS x)
    (hl : s.left ≠ 0) (hl1 : -1 ≤ s.left ∧ s.left ≤ 9223372036854775807) (ho : s.ops < 4611686018427387904) (hn : name.length ≤ 100) (hbl : b.length ≤ 200) :
    Calls Try.prog 24 #[.pointer (some ⟨sb, 0, none⟩), v, .agg #[.int .i64 1, .string ⟨name.toArray⟩, .slice ba bn bc]] w (StepPost sb f S RS (s.put name b) w) := by
  obtain ⟨ra, rn, rc, fa, fc, L, rfl, hrn, hr⟩ := hr.agg
  obtain ⟨q, o, l, fn, hq⟩ : ∃ q o l fn, refV (.slice ra rn rc) (.slice fa s.faults.length fc) s = .agg #[.slice ra rn rc, .int .i64 q, .int .i64 o, .int .i64 l, .slice fa fn fc] ∧ fn = s.faults.length := ⟨_, _, _, _, rfl, rfl⟩
  obtain ⟨hq, hfn⟩ := hq
  rw [hq]
  rw [← hfn] at hr hq
  have j := stj_laid (kind := 1) (name := name) hs hr hq hd hb hbr
  have hok := hs.ok
  have hsz : (⟨name.toArray⟩ : ByteArray).size ≤ maxLen := by unfold maxLen; simp [ByteArray.size]; omega
  have hbn : bn = b.length := by obtain ⟨_, a, c, e, _⟩ := hb; cases e; rfl
  have J := Lib.hid j; have HBN := Lib.hid hbn
  have hbnl : bn ≤ 200 := by omega
  have own0 := World.ownsRow_made (e := 5) (size := 1) (((w.alloc (.cells #[.slice ra rn rc, .int .i64 q, .int .i64 o, .int .i64 l, .slice fa fn fc] 35)).alloc (.cells #[.int .i64 1, .string ⟨name.toArray⟩, .slice ba bn bc] 38)).alloc (.cells #[.slice none 0 0, .int .i64 0, .int .i64 0, .int .i64 0, .slice none 0 0] 35)) #[] 0 (Nat.le_refl _) (Nat.zero_le _) rfl
  simp only [World.size_alloc] at own0
  have hsrc : Sl ((((w.alloc (.cells #[.slice ra rn rc, .int .i64 q, .int .i64 o, .int .i64 l, .slice fa fn fc] 35)).alloc (.cells #[.int .i64 1, .string ⟨name.toArray⟩, .slice ba bn bc] 38)).alloc (.cells #[.slice none 0 0, .int .i64 0, .int .i64 0, .int .i64 0, .slice none 0 0] 35)).alloc (.cells #[] 5)) 1 (.slice ba bn bc) bn (bytesV b) := by
    have h1 := j.bb
    unfold BytesAt at h1
    rw [← hbn] at h1
    exact Sl.keep h1 ((Keep.refl (fun _ => False) _).alloc _) (fun _ _ _ e => e)
  have n3 : w.heap.size + 1 + 1 + 1 ≤ ((((w.alloc (.cells #[.slice ra rn rc, .int .i64 q, .int .i64 o, .int .i64 l, .slice fa fn fc] 35)).alloc (.cells #[.int .i64 1, .string ⟨name.toArray⟩, .slice ba bn bc] 38)).alloc (.cells #[.slice none 0 0, .int .i64 0, .int .i64 0, .int .i64 0, .slice none 0 0] 35)).alloc (.cells #[] 5)).heap.size := by simp
  have n1 : 0 + bn ≤ maxLen := by unfold maxLen; omega
  have n2 : (0 + bn) * 1 ≤ 140737488355328 := by omega
  obtain ⟨i0, hi, hz0, hz1, hz2⟩ := info_parts info_byte
  have h00 : ∀ x, vblk (.slice (some ⟨w.heap.size + 1 + 1 + 1, 0, none⟩) 0 0) = some x → (((w.alloc (.cells #[.slice ra rn rc, .int .i64 q, .int .i64 o, .int .i64 l, .slice fa fn fc] 35)).alloc (.cells #[.int .i64 1, .string ⟨name.toArray⟩, .slice ba bn bc] 38)).alloc (.cells #[.slice none 0 0, .int .i64 0, .int .i64 0, .int .i64 0, .slice none 0 0] 35)).heap.size ≤ x := fun x e => by simp [vblk] at e; simp; omega
  have OWN0 := Lib.hid own0; have SRC0 := Lib.hid hsrc; have N1 := Lib.hid n1; have N2 := Lib.hid n2; have N3 := Lib.hid n3; have H00 := Lib.hid h00
  have hone := bytesV_one b
  have ONE := Lib.hid hone
  have h3 := lt_blk j.cr
  have HZ3 := Lib.hid h3
  clear j hs hr hd hb hbr hq hfn hrn hbn h3 own0 hsrc n1 n2 n3 h00 hone
  go_enter Try.func24, Try.ntmps24
  go_wp2_with (at_builtin; refine wpList_append_sl rfl (.tmp 33) (.tmp 35) 36 rfl (w.heap.size + 1 + 1 + 1) 5 i0 _ 1 1 Try.underlying36 hi hz0 hz1 hz2 rfl (by decide) (.slice (some ⟨w.heap.size + 1 + 1 + 1, 0, none⟩) 0 0) 0 [] rfl OWN0.out _ bn (bytesV b) rfl SRC0.out ONE.out N1.out N2.out N3.out ?_; intro ov W1 hown1 hk1 hb1; rw [Nat.zero_add, List.nil_append] at hown1; obtain ⟨xa, xc, eo, O1, KX1, B1, Z1⟩ := own_next ((Keep.refl _ _).alloc _) H00.out hown1 hk1 hb1; subst eo; clear hown1 hk1 hb1; have j1 := J.out.still KX1.out; obtain ⟨b0, b1, b2⟩ := j1.cells; have J1 := Lib.hid j1; clear j1)
  have ho1 : BytesAt W1 (.slice xa bn xc) b := by rw [HBN.out]; have := (Sl.of_owns O1.out).1; rw [HBN.out] at this; exact this
  have hno : ∀ x, vblk (.slice xa bn xc) = some x → w.heap.size + 3 ≤ x ∧ ¬ S x ∧ ¬ RS x ∧ x < W1.heap.size := fun x e => by
    have h2 := own_lt O1.out x e
    have h4 := B1.out x e
    have h3 := HZ3.out
    exact ⟨by omega, fun h => by have := J.out.st.lt x h; omega, fun h => by have := J.out.rl x h; omega, h2.2⟩
  have HO1' := O1; have HNO := Lib.hid hno
  clear hno
  refine (J1.out.st.put hl ho ⟨name.toArray⟩ hsz _ b ho1 (by omega)).mono ?_
  rintro e W2 ⟨S2, rfl, h2, t2⟩
  change St W2 sb f S2 (s.put name b) at h2
  have j2 := J1.out.turn h2 t2
  have hno2 : ∀ x, vblk (.slice xa bn xc) = some x → ¬ S2 x := fun x e => t2.not (HNO.out x e).2.1 (HNO.out x e).2.2.2
  have ho2 := own_keep HO1'.out t2.keep (fun x e => (HNO.out x e).2.1)
  obtain ⟨c, hc⟩ : ∃ c, c = s.putCode name b := ⟨_, rfl⟩
  have ec : s.putCode (⟨name.toArray⟩ : ByteArray).data.toList b = c := hc.symm
  rw [ec]
  have hst : ∀ gb, xa = some ⟨gb, 0, none⟩ → XorI W2 gb bn W2 := fun gb e => by subst e; exact XorI.start ho2
  have hxc : bn ≤ xc ∧ xc ≤ maxLen := by obtain ⟨_, a, c, e, h2, h3, _⟩ := (Sl.of_owns ho2).1; cases e; rw [HBN.out]; rw [HBN.out] at h2; exact ⟨h2, h3⟩
  have hsome : 0 < bn → ∃ gb, xa = some ⟨gb, 0, none⟩ := fun hp => by
    rcases ho2.2 with ⟨e, h0⟩ | ⟨g, cap, cur, e, _⟩
    · omega
    · cases e; exact ⟨_, rfl⟩
  have HC := Lib.hid hc; have J2 := Lib.hid j2; have HNO2 := Lib.hid hno2; have HST := Lib.hid hst; have HSOME := Lib.hid hsome
  obtain ⟨W2', hW2⟩ : ∃ W, W = W2 := ⟨_, rfl⟩
  rw [← hW2] at J2 HST
  have HW2 := Lib.hid hW2
  unfold maxLen at hxc
  obtain ⟨hx1, hx2⟩ := hxc
  clear ho1 h2 t2 j2 ho2 hc ec hst hno2 hsome hW2 b0 b1 b2
  go_wp2
  go_loopg [44] bn (fun g v44 wr => ∃ k : Nat, k ≤ bn ∧ g = bn - k ∧ v44 = .int .i64 k ∧ (∀ gb, xa = some ⟨gb, 0, none⟩ → XorI W2' gb bn wr) ∧ Keep (fun x => vblk (.slice xa bn xc) = some x) W2' wr)
  case atStart => exact ⟨0, Nat.zero_le _, rfl, rfl, by rw [← HW2.out]; exact HST.out, by rw [← HW2.out]; exact Keep.refl _ _⟩
  case round =>
    obtain ⟨k, hk, hg, rfl, hx, hkr⟩ := hrel
    by_cases hlt : k < bn
    · obtain ⟨gb, rfl⟩ := HSOME.out (by omega)
      have hX := hx gb rfl
      obtain ⟨x, cx, fx⟩ := hX.cell hlt
      have hset := hX.set hlt
      have i1 : (0 : Int) ≤ k := by omega
      have i2 : (k : Int) < bn := by omega
      have HSET := Lib.hid hset; have HG := Lib.hid hg; have HK := Lib.hid hkr
      clear hset hg hkr hx hX
      go_wp2
      go_roundg (bn - (k + 1))
      case measure => have := HG.out; omega
      case rel => exact ⟨k + 1, by omega, rfl, by go_num, fun gb' e => by cases e; exact HSET.out _, HK.out.setCell (p := ⟨gb, k, none⟩) (fun _ => rfl) _⟩
    · have j3 := J2.out.mine hkr (fun x e => ⟨HNO2.out x e, (HNO.out x e).2.2.1, (HNO.out x e).1⟩)
      obtain ⟨⟨a0, a1, a2, a3, a4⟩, -⟩ := five_cells j3.ax
      obtain ⟨b0, b1, b2⟩ := j3.cells
      have J3 := Lib.hid j3
      clear j3 hkr hx hg
      go_wp2_with fail
      rw [HBN.out]
      have hbb3 := J3.out.bb
      rw [HBN.out] at hbb3
      have hbr3 := J3.out.br
      rw [HBN.out] at hbr3
      refine (r6put_any J3.out.ref J3.out.rl hl hl1 ho hok ⟨name.toArray⟩ hsz ba bc b hbb3 hbr3).mono ?_
      rintro e W4 ⟨v', rfl, hr4, k4⟩
      have j4 := J3.out.still k4
      obtain ⟨ra2, rn2, rc2, q2, o2, l2, fa2, fn2, fc2, rfl⟩ := hr4.lit
      have ec : s.putCode (⟨name.toArray⟩ : ByteArray).data.toList b = c := HC.out.symm
      rw [ec]
      have fin : ∀ W9, Keep (· = w.heap.size + 2) W4 W9 → StepPost sb f S RS (s.put name b) w (.returned (.tuple #[.agg #[.slice ra2 rn2 rc2, .int .i64 q2, .int .i64 o2, .int .i64 l2, .slice fa2 fn2 fc2], .bool true])) W9 := fun W9 k9 =>
        J3.out.fin k4 hr4 (fun x e => e) (fun x e => .inl e) k9
      have J4 := Lib.hid j4; have HFIN := Lib.hid fin
      clear j4 hr4 k4 fin ec hbb3 hbr3
      go_wp2_with (refine wpList_store_box rfl 35 (.tmp 6) (.tmp 63) rfl (w.heap.size + 1 + 1) #[.slice ra2 rn2 rc2, .int .i64 q2, .int .i64 o2, .int .i64 l2, .slice fa2 fn2 fc2] (by rfl) (by rfl) (alloc_blk J4.out.cr _) (by kernel_rfl) rfl (five_one _ _ _ _ _ _ _ _ _) ?_; intro W9 hA9 kA9)
      refine bodyPost_ret (results_cell_tmp1 _ _ _ _ _ _ _ (by rfl) hA9 Try.underlying35 rfl (by kernel_rfl) rfl) rfl ?_
      exact HFIN.out _ (((Keep.refl _ W4).alloc _).trans kA9)
end Go.Proofs.Ytgnigkghkldcfaa
