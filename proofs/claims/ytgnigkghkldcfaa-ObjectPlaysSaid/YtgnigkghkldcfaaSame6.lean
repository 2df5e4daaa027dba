/-
  coldstorelaw06.same: true of a store and a reference's store that are the same.
-/
import Derived.Test.YtgnigkghkldcfaaRef6g
import Derived.Deep.DrawnRows
namespace Go.Proofs.Ytgnigkghkldcfaa
open Go.RowKit Go.Proofs Go.Lib

/-- within same: the store, the reference's store, its box -/
structure SJ (w : World) (sb : Nat) (f : Value) (S RS : Nat → Prop) (s : OS) (ra : Option Addr) (rn rc : Nat) (fa : Option Addr) (fn fc : Nat) (L : List ((Bs × Bs) × Value)) (xb : Nat) (W : World) : Prop where
  st : St W sb f S s
  rf : RfL W (.slice ra rn rc) (.slice fa fn fc) L RS s
  bx : W.heap[xb]? = some (.cells #[.slice ra rn rc, .int .i64 s.quota, .int .i64 s.ops, .int .i64 s.left, .slice fa fn fc] 35 (0, 0))
  keep : Keep (fun _ => False) w W
section
variable {w : World} {sb : Nat} {f : Value} {S RS : Nat → Prop} {s : OS} {ra : Option Addr} {rn rc : Nat} {fa : Option Addr} {fn fc : Nat} {L : List ((Bs × Bs) × Value)} {xb : Nat} {W W' : World}
theorem SJ.still (j : SJ w sb f S RS s ra rn rc fa fn fc L xb W) (hk : Keep (fun _ => False) W W') : SJ w sb f S RS s ra rn rc fa fn fc L xb W' := ⟨j.st.keep0 hk, j.rf.keep0 hk, hk.heap j.bx id, j.keep.trans hk⟩
theorem SJ.drew (j : SJ w sb f S RS s ra rn rc fa fn fc L xb W) : SJ w sb f S RS s ra rn rc fa fn fc L xb W.drew := j.still (Keep.refl _ _).drew
theorem SJ.all (j : SJ w sb f S RS s ra rn rc fa fn fc L xb W) : W.cell? ⟨xb, 0, none⟩ = some (.slice ra rn rc) ∧ W.cell? ⟨xb, 1, none⟩ = some (.int .i64 s.quota) ∧ W.cell? ⟨xb, 2, none⟩ = some (.int .i64 s.ops) ∧ W.cell? ⟨xb, 3, none⟩ = some (.int .i64 s.left) ∧ W.cell? ⟨xb, 4, none⟩ = some (.slice fa fn fc) ∧ SJ w sb f S RS s ra rn rc fa fn fc L xb W := by
  obtain ⟨⟨a0, a1, a2, a3, a4⟩, _⟩ := five_cells j.bx
  exact ⟨a0, a1, a2, a3, a4, j⟩
theorem SJ.of {p0 p1 p2 p3 p4 : Prop} (h : p0 ∧ p1 ∧ p2 ∧ p3 ∧ p4 ∧ SJ w sb f S RS s ra rn rc fa fn fc L xb W) : SJ w sb f S RS s ra rn rc fa fn fc L xb W := h.2.2.2.2.2
theorem SJ.size (j : SJ w sb f S RS s ra rn rc fa fn fc L xb W) : Calls Try.prog 68 #[.agg #[.slice ra rn rc, .int .i64 s.quota, .int .i64 s.ops, .int .i64 s.left, .slice fa fn fc]] W fun e w' => e = .returned (.int .i64 (sizeR s.row)) ∧ SJ w sb f S RS s ra rn rc fa fn fc L xb w' := by
  have hz : (sizeR s.row : Int) ≤ 9223372036854775807 := by have h1 := j.st.ok.size; have h2 := j.st.ok.quota; omega
  exact (r6size_any ⟨_, _, L, rfl, j.rf⟩ hz).mono (fun e w' ⟨h1, h2⟩ => ⟨h1, j.still h2⟩)
theorem SJ.len (j : SJ w sb f S RS s ra rn rc fa fn fc L xb W) : rn = s.row.length := by
  have h1 : rn = L.length := by obtain ⟨_, a, c, e, _⟩ := j.rf.rows.row; cases e; rfl
  rw [h1, ← j.rf.is, List.length_map]
end

set_option maxRecDepth 100000 in
set_option maxHeartbeats 8000000 in
theorem same6_any {w : World} {sb : Nat} {f : Value} {S RS : Nat → Prop} {s : OS} {v : Value} (hs : St w sb f S s) (hr : Rf w v RS s) (hle : s.row.length ≤ 1000) :
    Calls Try.prog 25 #[.pointer (some ⟨sb, 0, none⟩), v] w fun e w' => e = .returned (.bool true) ∧ Keep (fun _ => False) w w' := by
  obtain ⟨ra, rn, rc, fa, fc, L, rfl, hrn, hr⟩ := hr.agg
  obtain ⟨fn, hfn⟩ : ∃ n, n = s.faults.length := ⟨_, rfl⟩
  rw [← hfn] at hr ⊢
  unfold refV
  have J0 : SJ w sb f S RS s ra rn rc fa fn fc L w.heap.size (w.alloc (.cells #[.slice ra rn rc, .int .i64 s.quota, .int .i64 s.ops, .int .i64 s.left, .slice fa fn fc] 35)) := by
    have ka : Keep (fun _ => False) w (w.alloc (.cells #[.slice ra rn rc, .int .i64 s.quota, .int .i64 s.ops, .int .i64 s.left, .slice fa fn fc] 35)) := (Keep.refl _ _).alloc _
    exact ⟨hs.keep0 ka, hr.keep0 ka, alloc_new _ _, ka⟩
  have hlen := J0.len
  have hmany : s.row.length ≤ 4096 := hs.ok.many
  have HJ := Lib.hid J0; have HLEN := Lib.hid hlen
  clear J0 hs hr hrn hfn hlen
  go_enter Try.func25, Try.ntmps25
  go_wp2_with fail
  refine (names_any HJ.out.st 1000 (by decide) (by decide)).mono ?_
  rintro e W1 ⟨x, y, rfl, hx, hy, -, -, hk1⟩
  have J1 := HJ.out.still hk1
  obtain ⟨xa, xn, xc, rfl⟩ : ∃ a n c, x = .slice a n c := let ⟨_, a, c, e, _⟩ := hx; ⟨a, _, c, e⟩
  obtain ⟨ya, yn, yc, rfl⟩ : ∃ a n c, y = .slice a n c := let ⟨_, a, c, e, _⟩ := hy; ⟨a, _, c, e⟩
  have es : s.some 1000 = s.row.map (fun r => (r.1, r.2.length)) := by
    unfold OS.some
    rw [List.take_of_length_le (by simp [OS.list]; omega)]
    rfl
  rw [es, List.map_map] at hx hy
  have exn : xn = rn := by obtain ⟨_, a, c, e, _⟩ := hx; cases e; rw [HLEN.out]; simp
  have eyn : yn = rn := by obtain ⟨_, a, c, e, _⟩ := hy; cases e; rw [HLEN.out]; simp
  subst exn
  subst eyn
  have hx2 : Sl W1 1 (.slice xa yn xc) yn ((s.row.map (·.1)).map strV) := by have := hx; unfold StrsAt at this; rw [List.length_map, ← HLEN.out] at this; exact this
  have hy2 : Sl W1 1 (.slice ya yn yc) yn ((s.row.map (fun r => (r.2.length : Int))).map (.int .i64)) := by have := hy; unfold IntsAt at this; rw [List.length_map, ← HLEN.out] at this; exact this
  have KW1 := Lib.hid J1.keep
  have J1 : SJ W1 sb f S RS s ra yn rc fa fn fc L w.heap.size W1 := ⟨J1.st, J1.rf, J1.bx, Keep.refl _ _⟩
  obtain ⟨a0, a1, a2, a3, a4, -⟩ := J1.all
  obtain ⟨Z, hZ⟩ : ∃ Z, Z = sizeR s.row := ⟨_, rfl⟩
  have HZ := Lib.hid hZ
  have hlenC : ∀ W, SJ W1 sb f S RS s ra yn rc fa fn fc L w.heap.size W → Calls Try.prog 31 #[.pointer (some ⟨sb, 0, none⟩)] W fun e w' => e = .returned (.int .i64 yn) ∧ W = w' := fun W j => by
    have := j.st.len; rw [← HLEN.out] at this; exact this
  have hsizC : ∀ W, SJ W1 sb f S RS s ra yn rc fa fn fc L w.heap.size W → Calls Try.prog 30 #[.pointer (some ⟨sb, 0, none⟩)] W fun e w' => e = .returned (.int .i64 Z) ∧ W = w' := fun W j => by rw [hZ]; exact j.st.size
  have hrszC : ∀ W, SJ W1 sb f S RS s ra yn rc fa fn fc L w.heap.size W → Calls Try.prog 68 #[.agg #[.slice ra yn rc, .int .i64 s.quota, .int .i64 s.ops, .int .i64 s.left, .slice fa fn fc]] W fun e w' => e = .returned (.int .i64 Z) ∧ SJ W1 sb f S RS s ra yn rc fa fn fc L w.heap.size w' := fun W j => by rw [hZ]; exact j.size
  have hopsC : ∀ W, SJ W1 sb f S RS s ra yn rc fa fn fc L w.heap.size W → Calls Try.prog 39 #[.pointer (some ⟨sb, 0, none⟩)] W fun e w' => e = .returned (.int .i64 s.ops) ∧ W = w' := fun W j => j.st.ops
  have HLC := Lib.hid hlenC; have HSC := Lib.hid hsizC; have HRC := Lib.hid hrszC; have HOC := Lib.hid hopsC
  have HX2 := Lib.hid hx2; have HY2 := Lib.hid hy2
  have hf1 : ((yn : Int) == yn) = true := by simp
  clear hx hy hx2 hy2 hlenC hsizC hrszC hopsC es hZ hk1
  go_wp2_with fail
  go_region_held3 (fun w' => w'.cell? ⟨w.heap.size, 0, none⟩ = some (.slice ra yn rc) ∧ w'.cell? ⟨w.heap.size, 1, none⟩ = some (.int .i64 s.quota) ∧ w'.cell? ⟨w.heap.size, 2, none⟩ = some (.int .i64 s.ops) ∧ w'.cell? ⟨w.heap.size, 3, none⟩ = some (.int .i64 s.left) ∧ w'.cell? ⟨w.heap.size, 4, none⟩ = some (.slice fa fn fc) ∧ SJ W1 sb f S RS s ra yn rc fa fn fc L w.heap.size w')
    (first | exact SJ.all (by first | assumption | exact SJ.of (by assumption)) | exact SJ.all (SJ.drew (by first | assumption | exact SJ.of (by assumption))))
    (first | (go_at_call 31; refine (HLC.out _ (by first | assumption | exact SJ.of (by assumption))).mono ?_; rintro e w' ⟨rfl, rfl⟩) | (go_at_call 30; refine (HSC.out _ (by first | assumption | exact SJ.of (by assumption))).mono ?_; rintro e w' ⟨rfl, rfl⟩) | (go_at_call 68; refine (HRC.out _ (by first | assumption | exact SJ.of (by assumption))).mono ?_; rintro e w' ⟨rfl, hj'⟩) | (go_at_call 39; refine (HOC.out _ (by first | assumption | exact SJ.of (by assumption))).mono ?_; rintro e w' ⟨rfl, rfl⟩))
  have J2 : SJ W1 sb f S RS s ra yn rc fa fn fc L w.heap.size w' := by first | assumption | exact SJ.of (by assumption)
  obtain ⟨a0, a1, a2, a3, a4, -⟩ := J2.all
  have hx3 := Sl.keep HX2.out J2.keep (fun _ _ _ e => e)
  have hy3 := Sl.keep HY2.out J2.keep (fun _ _ _ e => e)
  obtain ⟨W2, hW2⟩ : ∃ W2, W2 = w' := ⟨_, rfl⟩
  rw [← hW2] at J2 hx3 hy3
  have HX3 := Lib.hid hx3; have HY3 := Lib.hid hy3; have HJ2 := Lib.hid J2; have HW2 := Lib.hid hW2
  clear hx3 hy3 J2 hW2
  have hy46 : yn ≤ 4096 := by rw [HLEN.out]; exact hmany
  go_wp2
  go_loopg [45] yn (fun g v45 wr => ∃ k : Nat, k ≤ yn ∧ g = yn - k ∧ v45 = .int .i64 k ∧ Keep (fun _ => False) W2 wr)
  case atStart => exact ⟨0, Nat.zero_le _, rfl, rfl, by rw [HW2.out]; exact Keep.refl _ _⟩
  case round =>
    obtain ⟨k, hk, hg, rfl, hkr⟩ := hrel
    by_cases hlt : k < yn
    · have j := HJ2.out.still hkr
      have hX := Sl.keep HX3.out hkr (fun _ _ _ e => e)
      have hY := Sl.keep HY3.out hkr (fun _ _ _ e => e)
      obtain ⟨p, hp⟩ : ∃ p, L[k]? = some p := ⟨_, List.getElem?_eq_getElem (by rw [← List.length_map (f := (·.1)), j.rf.is, ← HLEN.out]; exact hlt)⟩
      have hrow : s.row[k]? = some p.1 := by rw [← j.rf.is, List.getElem?_map, hp]; rfl
      have hrr : Sl wr 2 (.slice ra yn rc) yn (L.flatMap thCells) := by
        have h1 := j.rf.rows.row
        have h2 : L.length = yn := by rw [← List.length_map (f := (·.1)), j.rf.is, ← HLEN.out]
        rw [h2] at h1; exact h1
      obtain ⟨rb, ro, rc', ev, r1, r2⟩ := Sl.base hrr (by omega)
      cases ev
      obtain ⟨t0, t1⟩ := j.rf.rows.cells hp
      obtain ⟨_, la, lc, el, _⟩ := j.rf.rows.bytes p (List.mem_of_getElem? hp)
      obtain ⟨⟨nk, bs⟩, bv⟩ := p
      dsimp only at t0 t1 hrow el
      subst el
      simp only [strV] at t0
      obtain ⟨xb, xo, xc', ex, x1, x2⟩ := Sl.base hX (by omega)
      obtain ⟨yb, yo, yc', ey, y1, y2⟩ := Sl.base hY (by omega)
      cases ex; cases ey
      have cx : wr.cell? ⟨xb, xo + k, none⟩ = some (.string ⟨nk.toArray⟩) := Sl.at1 hX (by simp [hrow])
      have cy : wr.cell? ⟨yb, yo + k, none⟩ = some (.int .i64 bs.length) := Sl.at1 hY (by simp [hrow])
      unfold maxLen at r2 x2 y2
      have i1 : (0 : Int) ≤ k := by omega
      have i2 : (k : Int) < yn := by omega
      have HG := Lib.hid hg; have HK := Lib.hid hkr
      clear hg hkr j hX hY hp hrow hrr
      have hn1 : ¬ xb = wr.heap.size := fun e => by have := World.block_lt_of_cell? (a := ⟨xb, xo + k, none⟩) wr cx; dsimp only at this; omega
      have hn2 : ¬ yb = wr.heap.size := fun e => by have := World.block_lt_of_cell? (a := ⟨yb, yo + k, none⟩) wr cy; dsimp only at this; omega
      have ca : (wr.alloc (.cells #[.string ⟨nk.toArray⟩, .slice la bs.length lc] 133)).cell? ⟨xb, xo + k, none⟩ = _ := (World.cell?_of_block (Below.heap_alloc _ _ _ (World.block_lt_of_cell? (a := ⟨xb, xo + k, none⟩) wr cx))).trans cx
      have cb : (wr.alloc (.cells #[.string ⟨nk.toArray⟩, .slice la bs.length lc] 133)).cell? ⟨yb, yo + k, none⟩ = _ := (World.cell?_of_block (Below.heap_alloc _ _ _ (World.block_lt_of_cell? (a := ⟨yb, yo + k, none⟩) wr cy))).trans cy
      go_wp2_with fail
      go_region_held3 (fun w' => w'.cell? ⟨xb, xo + k, none⟩ = some (.string ⟨nk.toArray⟩) ∧ w'.cell? ⟨yb, yo + k, none⟩ = some (.int .i64 bs.length) ∧ w'.cell? ⟨wr.heap.size, 0, none⟩ = some (.string ⟨nk.toArray⟩) ∧ w'.cell? ⟨wr.heap.size, 1, none⟩ = some (.slice la bs.length lc)) (go_keep) (fail)
      go_wp2
      go_roundg (yn - (k + 1))
      case measure => have := HG.out; omega
      case rel => exact ⟨k + 1, by omega, rfl, by go_num, (HK.out.alloc _).drew⟩
    · have HK := Lib.hid ((KW1.out.trans HJ2.out.keep).trans hkr)
      clear hkr hg
      go_wp2
      go_ret
      exact ⟨rfl, HK.out⟩
end Go.Proofs.Ytgnigkghkldcfaa
