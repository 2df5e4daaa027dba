/-
  coldstorelaw06.step: List.
-/
import Derived.Test.YtgnigkghkldcfaaStep6b
namespace Go.Proofs.Ytgnigkghkldcfaa
open Go.RowKit Go.Proofs Go.Lib

/-- behind W3 nothing that was there has turned, but block C -/
structure KP (C : Nat) (W3 W : World) : Prop where
  k : Keep (· = C) W3 W
theorem KP.drew {C : Nat} {W3 W : World} (h : KP C W3 W) : KP C W3 W.drew := ⟨h.k.drew⟩
theorem KP.still {C : Nat} {W3 W W' : World} (h : KP C W3 W) (k : Keep (fun _ => False) W W') : KP C W3 W' := ⟨h.k.trans' k (fun _ _ e => e) (fun _ _ e => e.elim)⟩
theorem KP.five {C : Nat} {W3 W : World} (h : KP C W3 W) (x0 x1 x2 x3 x4 : Value) : KP C W3 (((((W.setCell ⟨C, 0, none⟩ x0).setCell ⟨C, 1, none⟩ x1).setCell ⟨C, 2, none⟩ x2).setCell ⟨C, 3, none⟩ x3).setCell ⟨C, 4, none⟩ x4) := ⟨set_five_keep (F := (· = C)) h.k rfl _ _ _ _ _⟩

set_option maxRecDepth 100000 in
set_option maxHeartbeats 8000000 in
theorem step_list {w : World} {sb : Nat} {f : Value} {S RS : Nat → Prop} {s : OS} {v : Value} {name : Bs} {ba : Option Addr} {bn bc : Nat} {b : Bs} (hs : St w sb f S s) (hr : Rf w v RS s) (hd : ∀ x, RS x → ¬ S x ∧ x < w.heap.size) (hb : BytesAt w (.slice ba bn bc) b) (hbr : ∀ x, 0 < b.length → vblk (.slice ba bn bc) = some x → RS x)
    (hl : s.left ≠ 0) (hl1 : -1 ≤ s.left ∧ s.left ≤ 9223372036854775807) (ho : s.ops < 4611686018427387904) :
    Calls Try.prog 24 #[.pointer (some ⟨sb, 0, none⟩), v, .agg #[.int .i64 4, .string ⟨name.toArray⟩, .slice ba bn bc]] w (StepPost sb f S RS s.op w) := by
  obtain ⟨ra, rn, rc, fa, fc, L, rfl, hrn, hr⟩ := hr.agg
  obtain ⟨q, o, l, fn, hq⟩ : ∃ q o l fn, refV (.slice ra rn rc) (.slice fa s.faults.length fc) s = .agg #[.slice ra rn rc, .int .i64 q, .int .i64 o, .int .i64 l, .slice fa fn fc] ∧ fn = s.faults.length := ⟨_, _, _, _, rfl, rfl⟩
  obtain ⟨hq, hfn⟩ := hq
  rw [hq]
  rw [← hfn] at hr hq
  have j := stj_laid (kind := 4) (name := name) hs hr hq hd hb hbr
  have hok := hs.ok
  have J := Lib.hid j
  clear j hs hr hd hb hbr hq hfn hrn
  go_enter Try.func24, Try.ntmps24
  go_wp2_with fail
  refine (J.out.st.list hl ho ⟨name.toArray⟩).mono ?_
  rintro e W1 ⟨lv, rfl, h1, t1, hl1', hlb⟩
  have j1 := J.out.turn h1 t1
  obtain ⟨⟨a0, a1, a2, a3, a4⟩, -⟩ := five_cells j1.ax
  obtain ⟨b0, b1, b2⟩ := j1.cells
  have J1 := Lib.hid j1
  obtain ⟨c, hc⟩ : ∃ c, c = s.code := ⟨_, rfl⟩
  rw [← hc]
  obtain ⟨la, ln, lc, rfl⟩ : ∃ a n c, lv = .slice a n c := let ⟨_, a, c, e, _⟩ := hl1'; ⟨a, _, c, e⟩
  have HC := Lib.hid hc; have HL := Lib.hid hl1'; have HLB := Lib.hid hlb
  clear j1 h1 t1 hc hl1' hlb
  go_wp2_with fail
  refine (r6list_any J1.out.ref J1.out.rl hl hl1 ho hok ⟨name.toArray⟩).mono ?_
  rintro e W2 ⟨v', ov, rfl, hr2, hov, hob, k2⟩
  have j2 := J1.out.still k2
  obtain ⟨ra2, rn2, rc2, q2, o2, l2, fa2, fn2, fc2, rfl⟩ := hr2.lit
  obtain ⟨oa, on, oc, rfl⟩ : ∃ a n c, ov = .slice a n c := let ⟨_, a, c, e, _⟩ := hov; ⟨a, _, c, e⟩
  rw [← HC.out]
  have fin : ∀ W9, Keep (· = w.heap.size + 2) W2 W9 → StepPost sb f S RS s.op w (.returned (.tuple #[.agg #[.slice ra2 rn2 rc2, .int .i64 q2, .int .i64 o2, .int .i64 l2, .slice fa2 fn2 fc2], .bool true])) W9 := fun W9 k9 =>
    J1.out.fin k2 hr2 (fun x e => .inl e) (fun x e => e) k9
  have hl2 : StrsAt W2 (.slice la ln lc) (s.listed name) := Sl.keep HL.out k2 (fun _ _ _ e => e)
  have HFIN := Lib.hid fin
  obtain ⟨Y, hY⟩ : ∃ Y, Y = Obj.cells #[.slice ra2 rn2 rc2, .int .i64 q2, .int .i64 o2, .int .i64 l2, .slice fa2 fn2 fc2] 35 := ⟨_, rfl⟩
  have all : ∀ w', KP (w.heap.size + 1 + 1) (W2.alloc Y) w' → KP (w.heap.size + 1 + 1) (W2.alloc Y) w' ∧ (w'.cell? ⟨W2.heap.size, 0, none⟩ = some (.slice ra2 rn2 rc2) ∧ w'.cell? ⟨W2.heap.size, 1, none⟩ = some (.int .i64 q2) ∧ w'.cell? ⟨W2.heap.size, 2, none⟩ = some (.int .i64 o2) ∧ w'.cell? ⟨W2.heap.size, 3, none⟩ = some (.int .i64 l2) ∧ w'.cell? ⟨W2.heap.size, 4, none⟩ = some (.slice fa2 fn2 fc2)) := by
    intro w' h
    have h1 := h.k.heap (alloc_new W2 Y) (fun e => by have := lt_blk j2.cr; omega)
    rw [hY] at h1
    exact ⟨h, (five_cells h1).1⟩
  have hno : ∀ x, 0 < (s.listed name).length → vblk (.slice la ln lc) = some x ∨ vblk (.slice oa on oc) = some x → x ≠ w.heap.size + 2 := fun x hn e => by
    have h1 := lt_blk J.out.cr
    have h2 := lt_blk J1.out.cr
    rcases e with e | e
    · have := HLB.out x e; omega
    · have := hob x e; omega
  have same : ∀ w', KP (w.heap.size + 1 + 1) (W2.alloc Y) w' → Calls Try.prog 35 #[.slice la ln lc, .slice oa on oc] w' fun e w9 => e = .returned (.bool true) ∧ KP (w.heap.size + 1 + 1) (W2.alloc Y) w9 ∧ Hid (Keep (fun _ => False) w' w9) := by
    intro w' h
    have k3 : Keep (· = w.heap.size + 2) W2 w' := ((Keep.refl _ _).alloc Y).trans h.k
    have hc1 : StrsAt w' (.slice la ln lc) (s.listed name) := Sl.keep hl2 k3 (fun x hn e h => hno x hn (.inl e) h)
    have hc2 : StrsAt w' (.slice oa on oc) (s.listed name) := Sl.keep hov k3 (fun x hn e h => hno x hn (.inr e) h)
    have := sameStrings_any hc1 hc2
    rw [decide_eq_true rfl] at this
    exact this.mono (fun e w9 ⟨h1, h2⟩ => ⟨h1, h.still h2, Lib.hid h2⟩)
  have fin2 : ∀ w', KP (w.heap.size + 1 + 1) (W2.alloc Y) w' → Keep (· = w.heap.size + 2) W2 w' := fun w' h => ((Keep.refl _ _).alloc Y).trans h.k
  have cr2 := j2.cr
  have cr0 := five_cells (alloc_blk cr2 Y)
  have kp0 : KP (w.heap.size + 1 + 1) (W2.alloc Y) (W2.alloc Y) := ⟨Keep.refl _ _⟩
  have c0 := all _ kp0
  rw [hY] at all same fin2 cr0 c0
  have HALL := Lib.hid all; have HSAME := Lib.hid same; have HF2 := Lib.hid fin2; have CR2 := Lib.hid cr2
  obtain ⟨kp1, c0⟩ := c0
  have KP1 := Lib.hid kp1
  obtain ⟨cr0, crf⟩ := cr0
  clear fin hr2 hov hob k2 j2 hl2 all same fin2 cr2 hY kp0 hno
  go_wp2_with fail
  go_region_held3 (fun w' => KP (w.heap.size + 1 + 1) (W2.alloc (.cells #[.slice ra2 rn2 rc2, .int .i64 q2, .int .i64 o2, .int .i64 l2, .slice fa2 fn2 fc2] 35)) w' ∧ (w'.cell? ⟨W2.heap.size, 0, none⟩ = some (.slice ra2 rn2 rc2) ∧ w'.cell? ⟨W2.heap.size, 1, none⟩ = some (.int .i64 q2) ∧ w'.cell? ⟨W2.heap.size, 2, none⟩ = some (.int .i64 o2) ∧ w'.cell? ⟨W2.heap.size, 3, none⟩ = some (.int .i64 l2) ∧ w'.cell? ⟨W2.heap.size, 4, none⟩ = some (.slice fa2 fn2 fc2)))
    (first | exact HALL.out _ (by assumption) | exact HALL.out _ (KP.drew (by first | assumption | exact And.left (by assumption))) | exact HALL.out _ (KP.five (by first | assumption | exact And.left (by assumption)) _ _ _ _ _) | exact HALL.out _ (KP.drew (KP.five (by first | assumption | exact And.left (by assumption)) _ _ _ _ _)))
    (first | (go_at_call 35; refine (HSAME.out _ (by first | assumption | exact And.left (by assumption))).mono ?_; rintro e w' ⟨rfl, hk', hkn⟩; have zz : w'.heap[w.heap.size + 1 + 1]? = some _ := hkn.out.heap (drew_blk (alloc_blk CR2.out _)) id; obtain ⟨⟨z0, z1, z2, z3, z4⟩, zf⟩ := five_cells zz; have ZZ := Lib.hid zz; clear zz hkn))
  have hb9 := set_five ZZ.out (.slice ra2 rn2 rc2) (.int .i64 q2) (.int .i64 o2) (.int .i64 l2) (.slice fa2 fn2 fc2)
  have hkp := HF2.out (((((w'.setCell ⟨w.heap.size + 1 + 1, 0, none⟩ (.slice ra2 rn2 rc2)).setCell ⟨w.heap.size + 1 + 1, 1, none⟩ (.int .i64 q2)).setCell ⟨w.heap.size + 1 + 1, 2, none⟩ (.int .i64 o2)).setCell ⟨w.heap.size + 1 + 1, 3, none⟩ (.int .i64 l2)).setCell ⟨w.heap.size + 1 + 1, 4, none⟩ (.slice fa2 fn2 fc2)) (by first | assumption | exact And.left (by assumption))
  have HB9 := Lib.hid hb9; have HKP := Lib.hid hkp
  clear hb9 hkp
  go_wp2
  refine bodyPost_ret (results_cell_tmp1 _ _ _ _ _ _ _ (by rfl) HB9.out Try.underlying35 rfl (by kernel_rfl) rfl) rfl ?_
  exact HFIN.out _ HKP.out
end Go.Proofs.Ytgnigkghkldcfaa
