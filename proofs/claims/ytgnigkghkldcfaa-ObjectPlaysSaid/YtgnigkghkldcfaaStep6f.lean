/-
  coldstorelaw06.step: where the fuse blows, and at no operation. (Printed by wip/gen/step6blow.py.)
-/
import Derived.Test.YtgnigkghkldcfaaStep6e
namespace Go.Proofs.Ytgnigkghkldcfaa
open Go.RowKit Go.Proofs Go.Lib

set_option maxRecDepth 100000 in
set_option maxHeartbeats 8000000 in
theorem step_blow3 {w : World} {sb fb : Nat} {S RS : Nat → Prop} {s : OS} {v : Value} {name : Bs} {ba : Option Addr} {bn bc : Nat} {b : Bs} (hs : St w sb (.pointer (some ⟨fb, 0, none⟩)) S s) (hr : Rf w v RS s) (hd : ∀ x, RS x → ¬ S x ∧ x < w.heap.size) (hb : BytesAt w (.slice ba bn bc) b) (hbr : ∀ x, 0 < b.length → vblk (.slice ba bn bc) = some x → RS x)
    (hl : s.left = 0) (_hbl : b.length ≤ 200) :
    Calls Try.prog 24 #[.pointer (some ⟨sb, 0, none⟩), v, .agg #[.int .i64 3, .string ⟨name.toArray⟩, .slice ba bn bc]] w fun e w' => e = .panicked (blowChain fb) ∧ Keep (fun _ => False) w w' := by
  obtain ⟨ra, rn, rc, fa, fc, L, rfl, hrn, hr⟩ := hr.agg
  obtain ⟨q, o, l, fn, hq⟩ : ∃ q o l fn, refV (.slice ra rn rc) (.slice fa s.faults.length fc) s = .agg #[.slice ra rn rc, .int .i64 q, .int .i64 o, .int .i64 l, .slice fa fn fc] ∧ fn = s.faults.length := ⟨_, _, _, _, rfl, rfl⟩
  obtain ⟨hq, hfn⟩ := hq
  rw [hq]
  rw [← hfn] at hr hq
  have j := stj_laid (kind := 3) (name := name) hs hr hq hd hb hbr
  have k0 : Keep (fun _ => False) w (((w.alloc (.cells #[.slice ra rn rc, .int .i64 q, .int .i64 o, .int .i64 l, .slice fa fn fc] 35)).alloc (.cells #[.int .i64 3, .string ⟨name.toArray⟩, .slice ba bn bc] 38)).alloc (.cells #[.slice none 0 0, .int .i64 0, .int .i64 0, .int .i64 0, .slice none 0 0] 35)) := (((Keep.refl _ _).alloc _).alloc _).alloc _
  have J := Lib.hid j; have K0 := Lib.hid k0
  clear j k0 hs hr hd hb hbr hq hfn hrn
  go_enter Try.func24, Try.ntmps24
  go_wp2_with fail
  refine (J.out.st.drop_blow hl _).mono ?_
  rintro e W1 ⟨rfl, hk⟩
  exact ⟨rfl, rfl, K0.out.trans hk⟩

set_option maxRecDepth 100000 in
set_option maxHeartbeats 8000000 in
theorem step_blow2 {w : World} {sb fb : Nat} {S RS : Nat → Prop} {s : OS} {v : Value} {name : Bs} {ba : Option Addr} {bn bc : Nat} {b : Bs} (hs : St w sb (.pointer (some ⟨fb, 0, none⟩)) S s) (hr : Rf w v RS s) (hd : ∀ x, RS x → ¬ S x ∧ x < w.heap.size) (hb : BytesAt w (.slice ba bn bc) b) (hbr : ∀ x, 0 < b.length → vblk (.slice ba bn bc) = some x → RS x)
    (hl : s.left = 0) (_hbl : b.length ≤ 200) :
    Calls Try.prog 24 #[.pointer (some ⟨sb, 0, none⟩), v, .agg #[.int .i64 2, .string ⟨name.toArray⟩, .slice ba bn bc]] w fun e w' => e = .panicked (blowChain fb) ∧ Keep (fun _ => False) w w' := by
  obtain ⟨ra, rn, rc, fa, fc, L, rfl, hrn, hr⟩ := hr.agg
  obtain ⟨q, o, l, fn, hq⟩ : ∃ q o l fn, refV (.slice ra rn rc) (.slice fa s.faults.length fc) s = .agg #[.slice ra rn rc, .int .i64 q, .int .i64 o, .int .i64 l, .slice fa fn fc] ∧ fn = s.faults.length := ⟨_, _, _, _, rfl, rfl⟩
  obtain ⟨hq, hfn⟩ := hq
  rw [hq]
  rw [← hfn] at hr hq
  have j := stj_laid (kind := 2) (name := name) hs hr hq hd hb hbr
  have k0 : Keep (fun _ => False) w (((w.alloc (.cells #[.slice ra rn rc, .int .i64 q, .int .i64 o, .int .i64 l, .slice fa fn fc] 35)).alloc (.cells #[.int .i64 2, .string ⟨name.toArray⟩, .slice ba bn bc] 38)).alloc (.cells #[.slice none 0 0, .int .i64 0, .int .i64 0, .int .i64 0, .slice none 0 0] 35)) := (((Keep.refl _ _).alloc _).alloc _).alloc _
  have J := Lib.hid j; have K0 := Lib.hid k0
  clear j k0 hs hr hd hb hbr hq hfn hrn
  go_enter Try.func24, Try.ntmps24
  go_wp2_with fail
  refine (J.out.st.get_blow hl _).mono ?_
  rintro e W1 ⟨rfl, hk⟩
  exact ⟨rfl, rfl, K0.out.trans hk⟩

set_option maxRecDepth 100000 in
set_option maxHeartbeats 8000000 in
theorem step_blow4 {w : World} {sb fb : Nat} {S RS : Nat → Prop} {s : OS} {v : Value} {name : Bs} {ba : Option Addr} {bn bc : Nat} {b : Bs} (hs : St w sb (.pointer (some ⟨fb, 0, none⟩)) S s) (hr : Rf w v RS s) (hd : ∀ x, RS x → ¬ S x ∧ x < w.heap.size) (hb : BytesAt w (.slice ba bn bc) b) (hbr : ∀ x, 0 < b.length → vblk (.slice ba bn bc) = some x → RS x)
    (hl : s.left = 0) (_hbl : b.length ≤ 200) :
    Calls Try.prog 24 #[.pointer (some ⟨sb, 0, none⟩), v, .agg #[.int .i64 4, .string ⟨name.toArray⟩, .slice ba bn bc]] w fun e w' => e = .panicked (blowChain fb) ∧ Keep (fun _ => False) w w' := by
  obtain ⟨ra, rn, rc, fa, fc, L, rfl, hrn, hr⟩ := hr.agg
  obtain ⟨q, o, l, fn, hq⟩ : ∃ q o l fn, refV (.slice ra rn rc) (.slice fa s.faults.length fc) s = .agg #[.slice ra rn rc, .int .i64 q, .int .i64 o, .int .i64 l, .slice fa fn fc] ∧ fn = s.faults.length := ⟨_, _, _, _, rfl, rfl⟩
  obtain ⟨hq, hfn⟩ := hq
  rw [hq]
  rw [← hfn] at hr hq
  have j := stj_laid (kind := 4) (name := name) hs hr hq hd hb hbr
  have k0 : Keep (fun _ => False) w (((w.alloc (.cells #[.slice ra rn rc, .int .i64 q, .int .i64 o, .int .i64 l, .slice fa fn fc] 35)).alloc (.cells #[.int .i64 4, .string ⟨name.toArray⟩, .slice ba bn bc] 38)).alloc (.cells #[.slice none 0 0, .int .i64 0, .int .i64 0, .int .i64 0, .slice none 0 0] 35)) := (((Keep.refl _ _).alloc _).alloc _).alloc _
  have J := Lib.hid j; have K0 := Lib.hid k0
  clear j k0 hs hr hd hb hbr hq hfn hrn
  go_enter Try.func24, Try.ntmps24
  go_wp2_with fail
  refine (J.out.st.list_blow hl _).mono ?_
  rintro e W1 ⟨rfl, hk⟩
  exact ⟨rfl, rfl, K0.out.trans hk⟩

set_option maxRecDepth 100000 in
set_option maxHeartbeats 8000000 in
theorem step_blow0 {w : World} {sb fb : Nat} {S RS : Nat → Prop} {s : OS} {v : Value} {name : Bs} {ba : Option Addr} {bn bc : Nat} {b : Bs} (hs : St w sb (.pointer (some ⟨fb, 0, none⟩)) S s) (hr : Rf w v RS s) (hd : ∀ x, RS x → ¬ S x ∧ x < w.heap.size) (hb : BytesAt w (.slice ba bn bc) b) (hbr : ∀ x, 0 < b.length → vblk (.slice ba bn bc) = some x → RS x)
    (hl : s.left = 0) (hbl : b.length ≤ 200) :
    Calls Try.prog 24 #[.pointer (some ⟨sb, 0, none⟩), v, .agg #[.int .i64 0, .string ⟨name.toArray⟩, .slice ba bn bc]] w fun e w' => e = .panicked (blowChain fb) ∧ Keep (fun _ => False) w w' := by
  obtain ⟨ra, rn, rc, fa, fc, L, rfl, hrn, hr⟩ := hr.agg
  obtain ⟨q, o, l, fn, hq⟩ : ∃ q o l fn, refV (.slice ra rn rc) (.slice fa s.faults.length fc) s = .agg #[.slice ra rn rc, .int .i64 q, .int .i64 o, .int .i64 l, .slice fa fn fc] ∧ fn = s.faults.length := ⟨_, _, _, _, rfl, rfl⟩
  obtain ⟨hq, hfn⟩ := hq
  rw [hq]
  rw [← hfn] at hr hq
  have j := stj_laid (kind := 0) (name := name) hs hr hq hd hb hbr
  have k0 : Keep (fun _ => False) w (((w.alloc (.cells #[.slice ra rn rc, .int .i64 q, .int .i64 o, .int .i64 l, .slice fa fn fc] 35)).alloc (.cells #[.int .i64 0, .string ⟨name.toArray⟩, .slice ba bn bc] 38)).alloc (.cells #[.slice none 0 0, .int .i64 0, .int .i64 0, .int .i64 0, .slice none 0 0] 35)) := (((Keep.refl _ _).alloc _).alloc _).alloc _
  have hbn : bn = b.length := by obtain ⟨_, a, c, e, _⟩ := hb; cases e; rfl
  have hbnl : bn ≤ 200 := by omega
  have own0 := World.ownsRow_made (e := 5) (size := 1) (((w.alloc (.cells #[.slice ra rn rc, .int .i64 q, .int .i64 o, .int .i64 l, .slice fa fn fc] 35)).alloc (.cells #[.int .i64 0, .string ⟨name.toArray⟩, .slice ba bn bc] 38)).alloc (.cells #[.slice none 0 0, .int .i64 0, .int .i64 0, .int .i64 0, .slice none 0 0] 35)) #[] 0 (Nat.le_refl _) (Nat.zero_le _) rfl
  simp only [World.size_alloc] at own0
  have hsrc : Sl ((((w.alloc (.cells #[.slice ra rn rc, .int .i64 q, .int .i64 o, .int .i64 l, .slice fa fn fc] 35)).alloc (.cells #[.int .i64 0, .string ⟨name.toArray⟩, .slice ba bn bc] 38)).alloc (.cells #[.slice none 0 0, .int .i64 0, .int .i64 0, .int .i64 0, .slice none 0 0] 35)).alloc (.cells #[] 5)) 1 (.slice ba bn bc) bn (bytesV b) := by
    have h1 := j.bb
    unfold BytesAt at h1
    rw [← hbn] at h1
    exact Sl.keep h1 ((Keep.refl (fun _ => False) _).alloc _) (fun _ _ _ e => e)
  have n3 : w.heap.size + 1 + 1 + 1 ≤ ((((w.alloc (.cells #[.slice ra rn rc, .int .i64 q, .int .i64 o, .int .i64 l, .slice fa fn fc] 35)).alloc (.cells #[.int .i64 0, .string ⟨name.toArray⟩, .slice ba bn bc] 38)).alloc (.cells #[.slice none 0 0, .int .i64 0, .int .i64 0, .int .i64 0, .slice none 0 0] 35)).alloc (.cells #[] 5)).heap.size := by simp
  have n1 : 0 + bn ≤ maxLen := by unfold maxLen; omega
  have n2 : (0 + bn) * 1 ≤ 140737488355328 := by omega
  obtain ⟨i0, hi, hz0, hz1, hz2⟩ := info_parts info_byte
  have h00 : ∀ x, vblk (.slice (some ⟨w.heap.size + 1 + 1 + 1, 0, none⟩) 0 0) = some x → (((w.alloc (.cells #[.slice ra rn rc, .int .i64 q, .int .i64 o, .int .i64 l, .slice fa fn fc] 35)).alloc (.cells #[.int .i64 0, .string ⟨name.toArray⟩, .slice ba bn bc] 38)).alloc (.cells #[.slice none 0 0, .int .i64 0, .int .i64 0, .int .i64 0, .slice none 0 0] 35)).heap.size ≤ x := fun x e => by simp [vblk] at e; simp; omega
  have OWN0 := Lib.hid own0; have SRC0 := Lib.hid hsrc; have N1 := Lib.hid n1; have N2 := Lib.hid n2; have N3 := Lib.hid n3; have H00 := Lib.hid h00
  have hone := bytesV_one b
  have ONE := Lib.hid hone
  have J := Lib.hid j; have K0 := Lib.hid k0
  clear j k0 hs hr hd hb hbr hq hfn hrn hbn own0 hsrc n1 n2 n3 h00 hone
  go_enter Try.func24, Try.ntmps24
  go_wp2_with (at_builtin; refine wpList_append_sl rfl (.tmp 33) (.tmp 35) 36 rfl (w.heap.size + 1 + 1 + 1) 5 i0 _ 1 1 Try.underlying36 hi hz0 hz1 hz2 rfl (by decide) (.slice (some ⟨w.heap.size + 1 + 1 + 1, 0, none⟩) 0 0) 0 [] rfl OWN0.out _ bn (bytesV b) rfl SRC0.out ONE.out N1.out N2.out N3.out ?_; intro ov W1 hown1 hk1 hb1; rw [Nat.zero_add, List.nil_append] at hown1; obtain ⟨xa, xc, eo, O1, KX1, B1, Z1⟩ := own_next ((Keep.refl _ _).alloc _) H00.out hown1 hk1 hb1; subst eo; clear hown1 hk1 hb1; have j1 := J.out.still KX1.out; obtain ⟨b0, b1, b2⟩ := j1.cells; have J1 := Lib.hid j1; clear j1)
  refine (J1.out.st.put_blow hl _ _ _ _).mono ?_
  rintro e W2 ⟨rfl, hk⟩
  exact ⟨rfl, rfl, (K0.out.trans KX1.out).trans hk⟩

set_option maxRecDepth 100000 in
set_option maxHeartbeats 8000000 in
theorem step_blow1 {w : World} {sb fb : Nat} {S RS : Nat → Prop} {s : OS} {v : Value} {name : Bs} {ba : Option Addr} {bn bc : Nat} {b : Bs} (hs : St w sb (.pointer (some ⟨fb, 0, none⟩)) S s) (hr : Rf w v RS s) (hd : ∀ x, RS x → ¬ S x ∧ x < w.heap.size) (hb : BytesAt w (.slice ba bn bc) b) (hbr : ∀ x, 0 < b.length → vblk (.slice ba bn bc) = some x → RS x)
    (hl : s.left = 0) (hbl : b.length ≤ 200) :
    Calls Try.prog 24 #[.pointer (some ⟨sb, 0, none⟩), v, .agg #[.int .i64 1, .string ⟨name.toArray⟩, .slice ba bn bc]] w fun e w' => e = .panicked (blowChain fb) ∧ Keep (fun _ => False) w w' := by
  obtain ⟨ra, rn, rc, fa, fc, L, rfl, hrn, hr⟩ := hr.agg
  obtain ⟨q, o, l, fn, hq⟩ : ∃ q o l fn, refV (.slice ra rn rc) (.slice fa s.faults.length fc) s = .agg #[.slice ra rn rc, .int .i64 q, .int .i64 o, .int .i64 l, .slice fa fn fc] ∧ fn = s.faults.length := ⟨_, _, _, _, rfl, rfl⟩
  obtain ⟨hq, hfn⟩ := hq
  rw [hq]
  rw [← hfn] at hr hq
  have j := stj_laid (kind := 1) (name := name) hs hr hq hd hb hbr
  have k0 : Keep (fun _ => False) w (((w.alloc (.cells #[.slice ra rn rc, .int .i64 q, .int .i64 o, .int .i64 l, .slice fa fn fc] 35)).alloc (.cells #[.int .i64 1, .string ⟨name.toArray⟩, .slice ba bn bc] 38)).alloc (.cells #[.slice none 0 0, .int .i64 0, .int .i64 0, .int .i64 0, .slice none 0 0] 35)) := (((Keep.refl _ _).alloc _).alloc _).alloc _
  have hbn : bn = b.length := by obtain ⟨_, a, c, e, _⟩ := hb; cases e; rfl
  have hbnl : bn ≤ 200 := by omega
  have own0 := World.ownsRow_made (e := 5) (size := 1) (((w.alloc (.cells #[.slice ra rn rc, .int .i64 q, .int .i64 o, .int .i64 l, .slice fa fn fc] 35)).alloc (.cells #[.int .i64 1, .string ⟨name.toArray⟩, .slice ba bn bc] 38)).alloc (.cells #[.slice none 0 0, .int .i64 0, .int .i64 0, .int .i64 0, .slice none 0 0] 35)) #[] 0 (Nat.le_refl _) (Nat.zero_le _) rfl
  simp only [World.size_alloc] at own0
  have hsrc : Sl ((((w.alloc (.cells #[.slice ra rn rc, .int .i64 q, .int .i64 o, .int .i64 l, .slice fa fn fc] 35)).alloc (.cells #[.int .i64 1, .string ⟨name.toArray⟩, .slice ba bn bc] 38)).alloc (.cells #[.slice none 0 0, .int .i64 0, .int .i64 0, .int .i64 0, .slice none 0 0] 35)).alloc (.cells #[] 5)) 1 (.slice ba bn bc) bn (bytesV b) := by
    have h1 := j.bb
    unfold BytesAt at h1
    rw [← hbn] at h1
    exact Sl.keep h1 ((Keep.refl (fun _ => False) _).alloc _) (fun _ _ _ e => e)
  have n3 : w.heap.size + 1 + 1 + 1 ≤ ((((w.alloc (.cells #[.slice ra rn rc, .int .i64 q, .int .i64 o, .int .i64 l, .slice fa fn fc] 35)).alloc (.cells #[.int .i64 1, .string ⟨name.toArray⟩, .slice ba bn bc] 38)).alloc (.cells #[.slice none 0 0, .int .i64 0, .int .i64 0, .int .i64 0, .slice none 0 0] 35)).alloc (.cells #[] 5)).heap.size := by simp
  have n1 : 0 + bn ≤ maxLen := by unfold maxLen; omega
  have n2 : (0 + bn) * 1 ≤ 140737488355328 := by omega
  obtain ⟨i0, hi, hz0, hz1, hz2⟩ := info_parts info_byte
  have h00 : ∀ x, vblk (.slice (some ⟨w.heap.size + 1 + 1 + 1, 0, none⟩) 0 0) = some x → (((w.alloc (.cells #[.slice ra rn rc, .int .i64 q, .int .i64 o, .int .i64 l, .slice fa fn fc] 35)).alloc (.cells #[.int .i64 1, .string ⟨name.toArray⟩, .slice ba bn bc] 38)).alloc (.cells #[.slice none 0 0, .int .i64 0, .int .i64 0, .int .i64 0, .slice none 0 0] 35)).heap.size ≤ x := fun x e => by simp [vblk] at e; simp; omega
  have OWN0 := Lib.hid own0; have SRC0 := Lib.hid hsrc; have N1 := Lib.hid n1; have N2 := Lib.hid n2; have N3 := Lib.hid n3; have H00 := Lib.hid h00
  have hone := bytesV_one b
  have ONE := Lib.hid hone
  have J := Lib.hid j; have K0 := Lib.hid k0
  clear j k0 hs hr hd hb hbr hq hfn hrn hbn own0 hsrc n1 n2 n3 h00 hone
  go_enter Try.func24, Try.ntmps24
  go_wp2_with (at_builtin; refine wpList_append_sl rfl (.tmp 33) (.tmp 35) 36 rfl (w.heap.size + 1 + 1 + 1) 5 i0 _ 1 1 Try.underlying36 hi hz0 hz1 hz2 rfl (by decide) (.slice (some ⟨w.heap.size + 1 + 1 + 1, 0, none⟩) 0 0) 0 [] rfl OWN0.out _ bn (bytesV b) rfl SRC0.out ONE.out N1.out N2.out N3.out ?_; intro ov W1 hown1 hk1 hb1; rw [Nat.zero_add, List.nil_append] at hown1; obtain ⟨xa, xc, eo, O1, KX1, B1, Z1⟩ := own_next ((Keep.refl _ _).alloc _) H00.out hown1 hk1 hb1; subst eo; clear hown1 hk1 hb1; have j1 := J.out.still KX1.out; obtain ⟨b0, b1, b2⟩ := j1.cells; have J1 := Lib.hid j1; clear j1)
  refine (J1.out.st.put_blow hl _ _ _ _).mono ?_
  rintro e W2 ⟨rfl, hk⟩
  exact ⟨rfl, rfl, (K0.out.trans KX1.out).trans hk⟩

set_option maxRecDepth 100000 in
set_option maxHeartbeats 8000000 in
theorem step_idle {w : World} {sb : Nat} {f : Value} {S RS : Nat → Prop} {s : OS} {v : Value} {kind : Int} {name : Bs} {ba : Option Addr} {bn bc : Nat} {b : Bs} (hs : St w sb f S s) (hr : Rf w v RS s) (hd : ∀ x, RS x → ¬ S x ∧ x < w.heap.size) (hb : BytesAt w (.slice ba bn bc) b) (hbr : ∀ x, 0 < b.length → vblk (.slice ba bn bc) = some x → RS x)
    (hk : ¬ (0 ≤ kind ∧ kind ≤ 4)) :
    Calls Try.prog 24 #[.pointer (some ⟨sb, 0, none⟩), v, .agg #[.int .i64 kind, .string ⟨name.toArray⟩, .slice ba bn bc]] w (StepPost sb f S RS s w) := by
  obtain ⟨ra, rn, rc, fa, fc, L, rfl, hrn, hr⟩ := hr.agg
  obtain ⟨q, o, l, fn, hq⟩ : ∃ q o l fn, refV (.slice ra rn rc) (.slice fa s.faults.length fc) s = .agg #[.slice ra rn rc, .int .i64 q, .int .i64 o, .int .i64 l, .slice fa fn fc] ∧ fn = s.faults.length := ⟨_, _, _, _, rfl, rfl⟩
  obtain ⟨hq, hfn⟩ := hq
  rw [hq]
  rw [← hfn] at hr hq
  have j := stj_laid (kind := kind) (name := name) hs hr hq hd hb hbr
  have h0 : (kind == 0) = false := by rw [beq_eq_false_iff_ne]; omega
  have h1 : (kind == 1) = false := by rw [beq_eq_false_iff_ne]; omega
  have h2 : (kind == 2) = false := by rw [beq_eq_false_iff_ne]; omega
  have h3 : (kind == 3) = false := by rw [beq_eq_false_iff_ne]; omega
  have h4 : (kind == 4) = false := by rw [beq_eq_false_iff_ne]; omega
  have J := Lib.hid j
  clear j hs hr hd hb hbr hq hfn hrn hk
  go_enter Try.func24, Try.ntmps24
  go_wp2_with (refine wpList_store_box rfl 35 (.tmp 6) (.tmp 149) rfl (w.heap.size + 1 + 1) #[.slice ra rn rc, .int .i64 q, .int .i64 o, .int .i64 l, .slice fa fn fc] (by rfl) (by rfl) J.out.cr (by kernel_rfl) rfl (five_one _ _ _ _ _ _ _ _ _) ?_; intro W9 hA9 kA9)
  refine bodyPost_ret (results_cell_tmp1 _ _ _ _ _ _ _ (by rfl) hA9 Try.underlying35 rfl (by kernel_rfl) rfl) rfl ?_
  exact J.out.fin (Keep.refl _ _) J.out.ref (fun x e => .inl e) (fun x e => e) kA9

/-- a step, whatever its kind, where the fuse does not blow -/
theorem step_any {w : World} {sb : Nat} {f : Value} {S RS : Nat → Prop} {s : OS} {v : Value} {kind : Int} {name : Bs} {ba : Option Addr} {bn bc : Nat} {b : Bs} (hs : St w sb f S s) (hr : Rf w v RS s) (hd : ∀ x, RS x → ¬ S x ∧ x < w.heap.size) (hb : BytesAt w (.slice ba bn bc) b) (hbr : ∀ x, 0 < b.length → vblk (.slice ba bn bc) = some x → RS x)
    (hl : s.left ≠ 0 ∨ ¬ (0 ≤ kind ∧ kind ≤ 4)) (hl1 : -1 ≤ s.left ∧ s.left ≤ 9223372036854775807) (ho : s.ops < 4611686018427387904) (hn : name.length ≤ 100) (hbl : b.length ≤ 200) :
    Calls Try.prog 24 #[.pointer (some ⟨sb, 0, none⟩), v, .agg #[.int .i64 kind, .string ⟨name.toArray⟩, .slice ba bn bc]] w (StepPost sb f S RS (s.step ⟨kind, name, b⟩) w) := by
  by_cases hk : 0 ≤ kind ∧ kind ≤ 4
  · have hl' : s.left ≠ 0 := hl.elim id (fun h => absurd hk h)
    have : kind = 0 ∨ kind = 1 ∨ kind = 2 ∨ kind = 3 ∨ kind = 4 := by omega
    rcases this with rfl | rfl | rfl | rfl | rfl
    · exact step_put0 hs hr hd hb hbr hl' hl1 ho hn hbl
    · exact step_put1 hs hr hd hb hbr hl' hl1 ho hn hbl
    · exact step_get hs hr hd hb hbr hl' hl1 ho hn
    · exact step_drop hs hr hd hb hbr hl' hl1 ho hn
    · exact step_list hs hr hd hb hbr hl' hl1 ho
  · have e : s.step ⟨kind, name, b⟩ = s := by
      unfold OS.step
      dsimp only
      rw [if_neg (by omega), if_neg (by omega), if_neg (by omega)]
    rw [e]
    exact step_idle hs hr hd hb hbr hk
theorem step_blow {w : World} {sb fb : Nat} {S RS : Nat → Prop} {s : OS} {v : Value} {kind : Int} {name : Bs} {ba : Option Addr} {bn bc : Nat} {b : Bs} (hs : St w sb (.pointer (some ⟨fb, 0, none⟩)) S s) (hr : Rf w v RS s) (hd : ∀ x, RS x → ¬ S x ∧ x < w.heap.size) (hb : BytesAt w (.slice ba bn bc) b) (hbr : ∀ x, 0 < b.length → vblk (.slice ba bn bc) = some x → RS x)
    (hl : s.left = 0) (hk : 0 ≤ kind ∧ kind ≤ 4) (hbl : b.length ≤ 200) :
    Calls Try.prog 24 #[.pointer (some ⟨sb, 0, none⟩), v, .agg #[.int .i64 kind, .string ⟨name.toArray⟩, .slice ba bn bc]] w fun e w' => e = .panicked (blowChain fb) ∧ Keep (fun _ => False) w w' := by
  have : kind = 0 ∨ kind = 1 ∨ kind = 2 ∨ kind = 3 ∨ kind = 4 := by omega
  rcases this with rfl | rfl | rfl | rfl | rfl
  · exact step_blow0 hs hr hd hb hbr hl hbl
  · exact step_blow1 hs hr hd hb hbr hl hbl
  · exact step_blow2 hs hr hd hb hbr hl hbl
  · exact step_blow3 hs hr hd hb hbr hl hbl
  · exact step_blow4 hs hr hd hb hbr hl hbl
end Go.Proofs.Ytgnigkghkldcfaa
