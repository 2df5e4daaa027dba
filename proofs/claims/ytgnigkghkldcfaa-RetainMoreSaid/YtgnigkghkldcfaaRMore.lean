/-
  coldstorelaw19.RetainMore: true.
-/
import Derived.Test.YtgnigkghkldcfaaRMore1
import Derived.Test.YtgnigkghkldcfaaRTags
namespace Go.Proofs.Ytgnigkghkldcfaa
open Go.RowKit Go.Proofs Go.Lib Go.Maps Go.Sort Go.Shelf

theorem pol_one (p : PolR) : (polCells p).all (·.oneCell') = true := by
  unfold polCells strV; simp [Value.oneCell']

set_option maxRecDepth 100000 in
set_option maxHeartbeats 8000000 in
theorem rmore_short {w : World} {v : Value} {L : List SnapR} {p : PolR} (hL : SnapsAt w v L) (hOK : ∀ s ∈ L, SnapOK s) (h30 : L.length ≤ 30) (hday : In64 p.day) (hwi : In64 p.within) (last0 days0 : Int) :
    Calls Try.prog 12 #[v, .agg (polCells p), .int .i64 last0, .int .i64 days0] w fun e w' => e = .returned (.bool true) ∧ Keep (fun _ => False) w w' := by
  obtain ⟨va, vc, rfl⟩ : ∃ a c, v = .slice a L.length c := let ⟨_, a, c, e, _⟩ := hL; ⟨a, c, e⟩
  obtain ⟨pl, pd, pday, pw, ptag⟩ := p
  dsimp only at hday hwi
  obtain ⟨l1, el1, -, hl1, hl2⟩ := mask_in 6 (by decide) 63 (by decide) pl
  obtain ⟨d1, ed1, -, hd1, hd2⟩ := mask_in 6 (by decide) 63 (by decide) pd
  obtain ⟨xl, exl, -, hxl1, hxl2⟩ := mask_in 6 (by decide) 63 (by decide) last0
  obtain ⟨xd, exd, -, hxd1, hxd2⟩ := mask_in 6 (by decide) 63 (by decide) days0
  simp only [Nat.reducePow] at hl2 hd2 hxl2 hxd2
  obtain ⟨l2, hl⟩ : ∃ l2, l2 = l1 + xl := ⟨_, rfl⟩
  obtain ⟨d2, hd⟩ : ∃ d2, d2 = d1 + xd := ⟨_, rfl⟩
  have hwl : IntKind.i64.wrap (l1 + xl) = l2 := by rw [IntKind.wrap_i64]; omega
  have hwd : IntKind.i64.wrap (d1 + xd) = d2 := by rw [IntKind.wrap_i64]; omega
  have hb1 : 0 ≤ l1 ∧ l1 ≤ 63 ∧ 0 ≤ d1 ∧ d1 ≤ 63 ∧ l1 ≤ l2 ∧ d1 ≤ d2 ∧ l2 ≤ 126 ∧ d2 ≤ 126 := by omega
  have HB1 := Lib.hid hb1
  have HL1 := Lib.hid hl; have HD1 := Lib.hid hd
  clear hb1 hl1 hl2 hd1 hd2 hxl1 hxl2 hxd1 hxd2 hl hd
  obtain ⟨N, hN⟩ : ∃ N, N = L.length := ⟨_, rfl⟩
  obtain ⟨P, hP⟩ := places_ex L
  obtain ⟨D, hD⟩ := days_ex L pday
  rw [← hN] at hL h30 ⊢
  have n30 : (N : Int) ≤ 30 := by omega
  have HL := Lib.hid hL; have HOK := Lib.hid hOK; have HN := Lib.hid hN; have HP := Lib.hid hP; have HD := Lib.hid hD
  have HKA := Lib.hid (fun (W : World) (h : SnapsAt W (.slice va N vc) L) => keep_at (p := ⟨l1, d1, pday, pw, ptag⟩) h hOK (by omega) (by unfold In64; dsimp only; have := HB1.out; omega) (by unfold In64; dsimp only; have := HB1.out; omega) hwi hP hD)
  have HKB := Lib.hid (fun (W : World) (h : SnapsAt W (.slice va N vc) L) => keep_at (p := ⟨l2, d2, pday, pw, ptag⟩) h hOK (by omega) (by unfold In64; dsimp only; have := HB1.out; omega) (by unfold In64; dsimp only; have := HB1.out; omega) hwi hP hD)
  have HMO := Lib.hid (fun (i : Nat) (hi : i < L.length) (h : (keepB L P ⟨l1, d1, pday, pw, ptag⟩ D)[i]? = some true) => keep_more (last := l2) (days := d2) hP (by have := HB1.out; dsimp only; omega) (by have := HB1.out; dsimp only; omega) hi h)
  obtain ⟨A, hA⟩ : ∃ A, A = keepB L P ⟨l1, d1, pday, pw, ptag⟩ D := ⟨_, rfl⟩
  obtain ⟨B, hB⟩ : ∃ B, B = keepB L P ⟨l2, d2, pday, pw, ptag⟩ D := ⟨_, rfl⟩
  rw [← hA] at HKA HMO; rw [← hB] at HKB HMO
  rw [← hN] at HKA HKB HMO
  have hAl : A.length = N := by rw [hA, keepB_len, hN]
  have hBl : B.length = N := by rw [hB, keepB_len, hN]
  have HA := Lib.hid hA; have HAL := Lib.hid hAl; have HBL := Lib.hid hBl; have HDAY := Lib.hid hday; have HWI := Lib.hid hwi
  clear hL hOK hN hP hD hA hB hAl hBl hday hwi
  unfold polCells
  dsimp only
  go_enter Try.func12, Try.ntmps12
  go_wp2_with fail
  refine (alive19_any _).mono ?_
  rintro e w1 ⟨rfl, k1⟩
  have b5 := k1.heap (alloc_new w (.cells #[.int .i64 pl, .int .i64 pd, .int .i64 pday, .int .i64 pw, strV ptag] 95)) id
  obtain ⟨⟨c0, c1, c2, c3, c4⟩, f5⟩ := five_cells b5
  have f50 := f5 0
  have f51 := f5 1
  have HK1 := Lib.hid (((Keep.refl (fun _ => False) w).alloc _).trans k1)
  have hpl : (Instr.loadAt 95 (.pointer (some ⟨w.heap.size, 0, none⟩))).run Try.prog ((w1.setCell ⟨w.heap.size, 0, none⟩ (.int .i64 l1)).setCell ⟨w.heap.size, 1, none⟩ (.int .i64 d1)) = .ok (.agg (polCells ⟨l1, d1, pday, pw, ptag⟩)) ((w1.setCell ⟨w.heap.size, 0, none⟩ (.int .i64 l1)).setCell ⟨w.heap.size, 1, none⟩ (.int .i64 d1)) :=
    load_box (P := Try.prog) (by rw [set_blk (set_blk b5 0 _) 1 _]; rfl) Try.underlying95 rfl (by rw [infoPolicy]; rfl)
  have hlt1 : w.heap.size < w1.heap.size := lt_blk' b5
  have HPL := Lib.hid hpl; have HB5 := Lib.hid b5
  clear b5 f5 k1 hpl
  go_wp2_with (first | (refine wpList_load_run rfl 95 (.tmp 5) rfl _ rfl _ HPL.out ?_) | (refine wpList_store_box rfl 95 (.tmp 9) (.tmp 28) rfl w1.heap.size (polCells ⟨l1, d1, pday, pw, ptag⟩) (by rfl) (by rfl) (alloc_at (by simp) _) (by rw [infoPolicy]; rfl) (by kernel_rfl) (pol_one _) ?_; intro W2 hB2 kB2))
  obtain ⟨b52, k52⟩ := rm_w2 HB5.out hlt1 kB2
  have hne : w.heap.size ≠ w1.heap.size := by omega
  have HK52 := Lib.hid k52
  clear kB2 k52 HPL HB5 c0 c1 c2 c3 c4 f50 f51
  dsimp only [Act.put]
  refine region_inv (fun listed a W' => ∃ (b0 b1 b2 b3 b4 b5 b6 b7 b8 b9 b10 b11 b12 b13 : Bool) (q29 q30 q31 q32 q33 q34 q35 q36 q37 q38 q39 q40 : Value), listed = #[b0, b1, b2, b3, b4, b5, b6, b7, b8, b9, b10, b11, b12, b13] ∧ a = { tmps := (Value.slice va N vc :: Value.agg #[Value.int IntKind.i64 pl, Value.int IntKind.i64 pd, Value.int IntKind.i64 pday, Value.int IntKind.i64 pw, strV ptag] :: Value.int IntKind.i64 last0 :: Value.int IntKind.i64 days0 :: undef :: Value.pointer (some { block := w.heap.size, off := 0 }) :: undef :: undef :: Value.bool false :: Value.pointer (some { block := w1.heap.size, off := 0 }) :: undef :: undef :: undef :: undef :: undef :: Value.bool true :: Value.bool false :: Value.slice va N vc :: Value.int IntKind.i64 ↑N :: Value.bool (decide ((30 : Int) < ↑N)) :: Value.pointer (some { block := w.heap.size, off := 0 }) :: Value.int IntKind.i64 pl :: Value.int IntKind.i64 l1 :: Value.pointer (some { block := w.heap.size, off := 1 }) :: Value.int IntKind.i64 pd :: Value.int IntKind.i64 d1 :: Value.pointer (some { block := w.heap.size, off := 0 }) :: Value.pointer (some { block := w.heap.size, off := 1 }) :: Value.agg (polCells { last := l1, days := d1, day := pday, within := pw, tag := ptag }) :: q29 :: q30 :: q31 :: q32 :: q33 :: q34 :: q35 :: q36 :: q37 :: q38 :: q39 :: q40 :: undef :: undef :: undef :: undef :: undef :: undef :: undef :: undef :: undef :: undef :: undef :: undef :: undef :: undef :: undef :: undef :: undef :: undef :: undef :: undef :: undef :: undef :: undef :: undef :: undef :: undef :: undef :: undef :: undef :: undef :: undef :: undef :: undef :: undef :: undef :: undef :: undef :: undef :: undef :: undef :: undef :: undef :: undef :: undef :: undef :: undef :: undef :: undef :: undef :: undef :: undef :: undef :: undef :: undef :: undef :: undef :: undef :: undef :: undef :: undef :: undef :: undef :: undef :: undef :: []).toArray, defers := [] } ∧ (b0 = true → q29 = Value.pointer (some ⟨w.heap.size, 0, none⟩)) ∧ (b1 = true → q30 = Value.int .i64 l1) ∧ (b2 = true → q31 = Value.int .i64 last0) ∧ (b3 = true → q32 = Value.int .i64 xl) ∧ (b4 = true → q33 = Value.int .i64 l2) ∧ (b5 = true → q34 = Value.pointer (some ⟨w.heap.size, 1, none⟩)) ∧ (b6 = true → q35 = Value.int .i64 d1) ∧ (b7 = true → q36 = Value.int .i64 days0) ∧ (b8 = true → q37 = Value.int .i64 xd) ∧ (b9 = true → q38 = Value.int .i64 d2) ∧ (b10 = true → q39 = Value.pointer (some ⟨w1.heap.size, 0, none⟩)) ∧ (b12 = true → q40 = Value.pointer (some ⟨w1.heap.size, 1, none⟩)) ∧ RMQ w.heap.size w1.heap.size W2 l1 d1 l2 d2 pday pw ptag b11 b13 W') (by kernel_rfl) ?h0 ?hs ?hd
  case h0 =>
    exact ⟨false, false, false, false, false, false, false, false, false, false, false, false, false, false, undef, undef, undef, undef, undef, undef, undef, undef, undef, undef, undef, undef, rfl, rfl, (fun e => by cases e), (fun e => by cases e), (fun e => by cases e), (fun e => by cases e), (fun e => by cases e), (fun e => by cases e), (fun e => by cases e), (fun e => by cases e), (fun e => by cases e), (fun e => by cases e), (fun e => by cases e), (fun e => by cases e), rmq0 b52 hB2 hne⟩
  case hs =>
    rintro _ _ W4 ⟨b0, b1, b2, b3, b4, b5, b6, b7, b8, b9, b10, b11, b12, b13, q29, q30, q31, q32, q33, q34, q35, q36, q37, q38, q39, q40, rfl, rfl, m0, m1, m2, m3, m4, m5, m6, m7, m8, m9, m10, m12, j⟩ i hi
    obtain ⟨hun, o, ho, hall⟩ := mem_ready.1 hi
    clear hi
    have hlt : i < 14 := (Array.getElem?_eq_some_iff.1 ho).1
    match i, hlt with
    | 0, _ =>
      simp at ho hun
      subst ho; subst hun
      have M0 := Lib.hid m0; have M1 := Lib.hid m1; have M2 := Lib.hid m2; have M3 := Lib.hid m3; have M4 := Lib.hid m4; have M5 := Lib.hid m5; have M6 := Lib.hid m6; have M7 := Lib.hid m7; have M8 := Lib.hid m8; have M9 := Lib.hid m9; have M10 := Lib.hid m10; have M12 := Lib.hid m12; clear m0 m1 m2 m3 m4 m5 m6 m7 m8 m9 m10 m12
      have HJ := Lib.hid j; clear j
      refine opStep_step rfl (fun K hK => ?_)
      have HK := Lib.hid hK; clear hK
      go_simp
      exact HK.out _ _ ⟨true, _, _, _, _, _, _, _, _, _, _, _, _, _, _, _, _, _, _, _, _, _, _, _, _, _, rfl, rfl, fun _ => rfl, M1.out, M2.out, M3.out, M4.out, M5.out, M6.out, M7.out, M8.out, M9.out, M10.out, M12.out, HJ.out⟩
    | 1, _ =>
      simp at ho hun
      subst ho; subst hun
      have e0 := hall ⟨0, .data⟩ (by simp) rfl
      simp at e0
      subst e0
      have n0 := m0 rfl
      subst n0
      have c := j.c0
      have M0 := Lib.hid m0; have M1 := Lib.hid m1; have M2 := Lib.hid m2; have M3 := Lib.hid m3; have M4 := Lib.hid m4; have M5 := Lib.hid m5; have M6 := Lib.hid m6; have M7 := Lib.hid m7; have M8 := Lib.hid m8; have M9 := Lib.hid m9; have M10 := Lib.hid m10; have M12 := Lib.hid m12; clear m0 m1 m2 m3 m4 m5 m6 m7 m8 m9 m10 m12
      have HJ := Lib.hid j; clear j
      refine opStep_step rfl (fun K hK => ?_)
      have HK := Lib.hid hK; clear hK
      go_simp
      exact HK.out _ _ ⟨_, true, _, _, _, _, _, _, _, _, _, _, _, _, _, _, _, _, _, _, _, _, _, _, _, _, rfl, rfl, M0.out, fun _ => rfl, M2.out, M3.out, M4.out, M5.out, M6.out, M7.out, M8.out, M9.out, M10.out, M12.out, HJ.out⟩
    | 2, _ =>
      simp at ho hun
      subst ho; subst hun
      have M0 := Lib.hid m0; have M1 := Lib.hid m1; have M2 := Lib.hid m2; have M3 := Lib.hid m3; have M4 := Lib.hid m4; have M5 := Lib.hid m5; have M6 := Lib.hid m6; have M7 := Lib.hid m7; have M8 := Lib.hid m8; have M9 := Lib.hid m9; have M10 := Lib.hid m10; have M12 := Lib.hid m12; clear m0 m1 m2 m3 m4 m5 m6 m7 m8 m9 m10 m12
      have HJ := Lib.hid j; clear j
      refine opStep_step rfl (fun K hK => ?_)
      have HK := Lib.hid hK; clear hK
      go_simp
      exact HK.out _ _ ⟨_, _, true, _, _, _, _, _, _, _, _, _, _, _, _, _, _, _, _, _, _, _, _, _, _, _, rfl, rfl, M0.out, M1.out, fun _ => rfl, M3.out, M4.out, M5.out, M6.out, M7.out, M8.out, M9.out, M10.out, M12.out, HJ.out⟩
    | 3, _ =>
      simp at ho hun
      subst ho; subst hun
      have e2 := hall ⟨2, .data⟩ (by simp) rfl
      simp at e2
      subst e2
      have n2 := m2 rfl
      subst n2
      have M0 := Lib.hid m0; have M1 := Lib.hid m1; have M2 := Lib.hid m2; have M3 := Lib.hid m3; have M4 := Lib.hid m4; have M5 := Lib.hid m5; have M6 := Lib.hid m6; have M7 := Lib.hid m7; have M8 := Lib.hid m8; have M9 := Lib.hid m9; have M10 := Lib.hid m10; have M12 := Lib.hid m12; clear m0 m1 m2 m3 m4 m5 m6 m7 m8 m9 m10 m12
      have HJ := Lib.hid j; clear j
      refine opStep_step rfl (fun K hK => ?_)
      have HK := Lib.hid hK; clear hK
      go_simp
      exact HK.out _ _ ⟨_, _, _, true, _, _, _, _, _, _, _, _, _, _, _, _, _, _, _, _, _, _, _, _, _, _, rfl, rfl, M0.out, M1.out, M2.out, fun _ => rfl, M4.out, M5.out, M6.out, M7.out, M8.out, M9.out, M10.out, M12.out, HJ.out⟩
    | 4, _ =>
      simp at ho hun
      subst ho; subst hun
      have e1 := hall ⟨1, .data⟩ (by simp) rfl
      simp at e1
      subst e1
      have n1 := m1 rfl
      subst n1
      have e3 := hall ⟨3, .data⟩ (by simp) rfl
      simp at e3
      subst e3
      have n3 := m3 rfl
      subst n3
      have M0 := Lib.hid m0; have M1 := Lib.hid m1; have M2 := Lib.hid m2; have M3 := Lib.hid m3; have M4 := Lib.hid m4; have M5 := Lib.hid m5; have M6 := Lib.hid m6; have M7 := Lib.hid m7; have M8 := Lib.hid m8; have M9 := Lib.hid m9; have M10 := Lib.hid m10; have M12 := Lib.hid m12; clear m0 m1 m2 m3 m4 m5 m6 m7 m8 m9 m10 m12
      have HJ := Lib.hid j; clear j
      refine opStep_step rfl (fun K hK => ?_)
      have HK := Lib.hid hK; clear hK
      go_simp
      exact HK.out _ _ ⟨_, _, _, _, true, _, _, _, _, _, _, _, _, _, _, _, _, _, _, _, _, _, _, _, _, _, rfl, rfl, M0.out, M1.out, M2.out, M3.out, fun _ => rfl, M5.out, M6.out, M7.out, M8.out, M9.out, M10.out, M12.out, HJ.out⟩
    | 5, _ =>
      simp at ho hun
      subst ho; subst hun
      have M0 := Lib.hid m0; have M1 := Lib.hid m1; have M2 := Lib.hid m2; have M3 := Lib.hid m3; have M4 := Lib.hid m4; have M5 := Lib.hid m5; have M6 := Lib.hid m6; have M7 := Lib.hid m7; have M8 := Lib.hid m8; have M9 := Lib.hid m9; have M10 := Lib.hid m10; have M12 := Lib.hid m12; clear m0 m1 m2 m3 m4 m5 m6 m7 m8 m9 m10 m12
      have HJ := Lib.hid j; clear j
      refine opStep_step rfl (fun K hK => ?_)
      have HK := Lib.hid hK; clear hK
      go_simp
      exact HK.out _ _ ⟨_, _, _, _, _, true, _, _, _, _, _, _, _, _, _, _, _, _, _, _, _, _, _, _, _, _, rfl, rfl, M0.out, M1.out, M2.out, M3.out, M4.out, fun _ => rfl, M6.out, M7.out, M8.out, M9.out, M10.out, M12.out, HJ.out⟩
    | 6, _ =>
      simp at ho hun
      subst ho; subst hun
      have e5 := hall ⟨5, .data⟩ (by simp) rfl
      simp at e5
      subst e5
      have n5 := m5 rfl
      subst n5
      have c := j.c1
      have M0 := Lib.hid m0; have M1 := Lib.hid m1; have M2 := Lib.hid m2; have M3 := Lib.hid m3; have M4 := Lib.hid m4; have M5 := Lib.hid m5; have M6 := Lib.hid m6; have M7 := Lib.hid m7; have M8 := Lib.hid m8; have M9 := Lib.hid m9; have M10 := Lib.hid m10; have M12 := Lib.hid m12; clear m0 m1 m2 m3 m4 m5 m6 m7 m8 m9 m10 m12
      have HJ := Lib.hid j; clear j
      refine opStep_step rfl (fun K hK => ?_)
      have HK := Lib.hid hK; clear hK
      go_simp
      exact HK.out _ _ ⟨_, _, _, _, _, _, true, _, _, _, _, _, _, _, _, _, _, _, _, _, _, _, _, _, _, _, rfl, rfl, M0.out, M1.out, M2.out, M3.out, M4.out, M5.out, fun _ => rfl, M7.out, M8.out, M9.out, M10.out, M12.out, HJ.out⟩
    | 7, _ =>
      simp at ho hun
      subst ho; subst hun
      have M0 := Lib.hid m0; have M1 := Lib.hid m1; have M2 := Lib.hid m2; have M3 := Lib.hid m3; have M4 := Lib.hid m4; have M5 := Lib.hid m5; have M6 := Lib.hid m6; have M7 := Lib.hid m7; have M8 := Lib.hid m8; have M9 := Lib.hid m9; have M10 := Lib.hid m10; have M12 := Lib.hid m12; clear m0 m1 m2 m3 m4 m5 m6 m7 m8 m9 m10 m12
      have HJ := Lib.hid j; clear j
      refine opStep_step rfl (fun K hK => ?_)
      have HK := Lib.hid hK; clear hK
      go_simp
      exact HK.out _ _ ⟨_, _, _, _, _, _, _, true, _, _, _, _, _, _, _, _, _, _, _, _, _, _, _, _, _, _, rfl, rfl, M0.out, M1.out, M2.out, M3.out, M4.out, M5.out, M6.out, fun _ => rfl, M8.out, M9.out, M10.out, M12.out, HJ.out⟩
    | 8, _ =>
      simp at ho hun
      subst ho; subst hun
      have e7 := hall ⟨7, .data⟩ (by simp) rfl
      simp at e7
      subst e7
      have n7 := m7 rfl
      subst n7
      have M0 := Lib.hid m0; have M1 := Lib.hid m1; have M2 := Lib.hid m2; have M3 := Lib.hid m3; have M4 := Lib.hid m4; have M5 := Lib.hid m5; have M6 := Lib.hid m6; have M7 := Lib.hid m7; have M8 := Lib.hid m8; have M9 := Lib.hid m9; have M10 := Lib.hid m10; have M12 := Lib.hid m12; clear m0 m1 m2 m3 m4 m5 m6 m7 m8 m9 m10 m12
      have HJ := Lib.hid j; clear j
      refine opStep_step rfl (fun K hK => ?_)
      have HK := Lib.hid hK; clear hK
      go_simp
      exact HK.out _ _ ⟨_, _, _, _, _, _, _, _, true, _, _, _, _, _, _, _, _, _, _, _, _, _, _, _, _, _, rfl, rfl, M0.out, M1.out, M2.out, M3.out, M4.out, M5.out, M6.out, M7.out, fun _ => rfl, M9.out, M10.out, M12.out, HJ.out⟩
    | 9, _ =>
      simp at ho hun
      subst ho; subst hun
      have e6 := hall ⟨6, .data⟩ (by simp) rfl
      simp at e6
      subst e6
      have n6 := m6 rfl
      subst n6
      have e8 := hall ⟨8, .data⟩ (by simp) rfl
      simp at e8
      subst e8
      have n8 := m8 rfl
      subst n8
      have M0 := Lib.hid m0; have M1 := Lib.hid m1; have M2 := Lib.hid m2; have M3 := Lib.hid m3; have M4 := Lib.hid m4; have M5 := Lib.hid m5; have M6 := Lib.hid m6; have M7 := Lib.hid m7; have M8 := Lib.hid m8; have M9 := Lib.hid m9; have M10 := Lib.hid m10; have M12 := Lib.hid m12; clear m0 m1 m2 m3 m4 m5 m6 m7 m8 m9 m10 m12
      have HJ := Lib.hid j; clear j
      refine opStep_step rfl (fun K hK => ?_)
      have HK := Lib.hid hK; clear hK
      go_simp
      exact HK.out _ _ ⟨_, _, _, _, _, _, _, _, _, true, _, _, _, _, _, _, _, _, _, _, _, _, _, _, _, _, rfl, rfl, M0.out, M1.out, M2.out, M3.out, M4.out, M5.out, M6.out, M7.out, M8.out, fun _ => rfl, M10.out, M12.out, HJ.out⟩
    | 10, _ =>
      simp at ho hun
      subst ho; subst hun
      have M0 := Lib.hid m0; have M1 := Lib.hid m1; have M2 := Lib.hid m2; have M3 := Lib.hid m3; have M4 := Lib.hid m4; have M5 := Lib.hid m5; have M6 := Lib.hid m6; have M7 := Lib.hid m7; have M8 := Lib.hid m8; have M9 := Lib.hid m9; have M10 := Lib.hid m10; have M12 := Lib.hid m12; clear m0 m1 m2 m3 m4 m5 m6 m7 m8 m9 m10 m12
      have HJ := Lib.hid j; clear j
      refine opStep_step rfl (fun K hK => ?_)
      have HK := Lib.hid hK; clear hK
      go_simp
      exact HK.out _ _ ⟨_, _, _, _, _, _, _, _, _, _, true, _, _, _, _, _, _, _, _, _, _, _, _, _, _, _, rfl, rfl, M0.out, M1.out, M2.out, M3.out, M4.out, M5.out, M6.out, M7.out, M8.out, M9.out, fun _ => rfl, M12.out, HJ.out⟩
    | 11, _ =>
      simp at ho hun
      subst ho; subst hun
      have e10 := hall ⟨10, .data⟩ (by simp) rfl
      simp at e10
      subst e10
      have n10 := m10 rfl
      subst n10
      have e4 := hall ⟨4, .data⟩ (by simp) rfl
      simp at e4
      subst e4
      have n4 := m4 rfl
      subst n4
      have c := j.m0
      have f := j.f0
      have M0 := Lib.hid m0; have M1 := Lib.hid m1; have M2 := Lib.hid m2; have M3 := Lib.hid m3; have M4 := Lib.hid m4; have M5 := Lib.hid m5; have M6 := Lib.hid m6; have M7 := Lib.hid m7; have M8 := Lib.hid m8; have M9 := Lib.hid m9; have M10 := Lib.hid m10; have M12 := Lib.hid m12; clear m0 m1 m2 m3 m4 m5 m6 m7 m8 m9 m10 m12
      have HJ := Lib.hid j; clear j
      refine opStep_step rfl (fun K hK => ?_)
      have HK := Lib.hid hK; clear hK
      go_simp
      exact HK.out _ _ ⟨_, _, _, _, _, _, _, _, _, _, _, true, _, _, _, _, _, _, _, _, _, _, _, _, _, _, rfl, rfl, M0.out, M1.out, M2.out, M3.out, M4.out, M5.out, M6.out, M7.out, M8.out, M9.out, M10.out, M12.out, HJ.out.s0⟩
    | 12, _ =>
      simp at ho hun
      subst ho; subst hun
      have M0 := Lib.hid m0; have M1 := Lib.hid m1; have M2 := Lib.hid m2; have M3 := Lib.hid m3; have M4 := Lib.hid m4; have M5 := Lib.hid m5; have M6 := Lib.hid m6; have M7 := Lib.hid m7; have M8 := Lib.hid m8; have M9 := Lib.hid m9; have M10 := Lib.hid m10; have M12 := Lib.hid m12; clear m0 m1 m2 m3 m4 m5 m6 m7 m8 m9 m10 m12
      have HJ := Lib.hid j; clear j
      refine opStep_step rfl (fun K hK => ?_)
      have HK := Lib.hid hK; clear hK
      go_simp
      exact HK.out _ _ ⟨_, _, _, _, _, _, _, _, _, _, _, _, true, _, _, _, _, _, _, _, _, _, _, _, _, _, rfl, rfl, M0.out, M1.out, M2.out, M3.out, M4.out, M5.out, M6.out, M7.out, M8.out, M9.out, M10.out, fun _ => rfl, HJ.out⟩
    | 13, _ =>
      simp at ho hun
      subst ho; subst hun
      have e12 := hall ⟨12, .data⟩ (by simp) rfl
      simp at e12
      subst e12
      have n12 := m12 rfl
      subst n12
      have e9 := hall ⟨9, .data⟩ (by simp) rfl
      simp at e9
      subst e9
      have n9 := m9 rfl
      subst n9
      have c := j.m1
      have f := j.f1
      have M0 := Lib.hid m0; have M1 := Lib.hid m1; have M2 := Lib.hid m2; have M3 := Lib.hid m3; have M4 := Lib.hid m4; have M5 := Lib.hid m5; have M6 := Lib.hid m6; have M7 := Lib.hid m7; have M8 := Lib.hid m8; have M9 := Lib.hid m9; have M10 := Lib.hid m10; have M12 := Lib.hid m12; clear m0 m1 m2 m3 m4 m5 m6 m7 m8 m9 m10 m12
      have HJ := Lib.hid j; clear j
      refine opStep_step rfl (fun K hK => ?_)
      have HK := Lib.hid hK; clear hK
      go_simp
      exact HK.out _ _ ⟨_, _, _, _, _, _, _, _, _, _, _, _, _, true, _, _, _, _, _, _, _, _, _, _, _, _, rfl, rfl, M0.out, M1.out, M2.out, M3.out, M4.out, M5.out, M6.out, M7.out, M8.out, M9.out, M10.out, M12.out, HJ.out.s1⟩
  case hd =>
    rintro _ _ W4 ⟨b0, b1, b2, b3, b4, b5, b6, b7, b8, b9, b10, b11, b12, b13, q29, q30, q31, q32, q33, q34, q35, q36, q37, q38, q39, q40, rfl, rfl, m0, m1, m2, m3, m4, m5, m6, m7, m8, m9, m10, m12, j⟩ hr
    have hn : ∀ i, i ∈ Region.ready .any _ _ → False := fun i hi => by rw [hr] at hi; cases hi
    have t0 : b0 = true := by cases b0; exact (hn 0 (mem_ready.2 ⟨rfl, _, rfl, by simp [Region.binds]⟩)).elim; rfl
    subst t0
    have t1 : b1 = true := by cases b1; exact (hn 1 (mem_ready.2 ⟨rfl, _, rfl, by simp [Region.binds]⟩)).elim; rfl
    subst t1
    have t2 : b2 = true := by cases b2; exact (hn 2 (mem_ready.2 ⟨rfl, _, rfl, by simp [Region.binds]⟩)).elim; rfl
    subst t2
    have t3 : b3 = true := by cases b3; exact (hn 3 (mem_ready.2 ⟨rfl, _, rfl, by simp [Region.binds]⟩)).elim; rfl
    subst t3
    have t4 : b4 = true := by cases b4; exact (hn 4 (mem_ready.2 ⟨rfl, _, rfl, by simp [Region.binds]⟩)).elim; rfl
    subst t4
    have t5 : b5 = true := by cases b5; exact (hn 5 (mem_ready.2 ⟨rfl, _, rfl, by simp [Region.binds]⟩)).elim; rfl
    subst t5
    have t6 : b6 = true := by cases b6; exact (hn 6 (mem_ready.2 ⟨rfl, _, rfl, by simp [Region.binds]⟩)).elim; rfl
    subst t6
    have t7 : b7 = true := by cases b7; exact (hn 7 (mem_ready.2 ⟨rfl, _, rfl, by simp [Region.binds]⟩)).elim; rfl
    subst t7
    have t8 : b8 = true := by cases b8; exact (hn 8 (mem_ready.2 ⟨rfl, _, rfl, by simp [Region.binds]⟩)).elim; rfl
    subst t8
    have t9 : b9 = true := by cases b9; exact (hn 9 (mem_ready.2 ⟨rfl, _, rfl, by simp [Region.binds]⟩)).elim; rfl
    subst t9
    have t10 : b10 = true := by cases b10; exact (hn 10 (mem_ready.2 ⟨rfl, _, rfl, by simp [Region.binds]⟩)).elim; rfl
    subst t10
    have t11 : b11 = true := by cases b11; exact (hn 11 (mem_ready.2 ⟨rfl, _, rfl, by simp [Region.binds]⟩)).elim; rfl
    subst t11
    have t12 : b12 = true := by cases b12; exact (hn 12 (mem_ready.2 ⟨rfl, _, rfl, by simp [Region.binds]⟩)).elim; rfl
    subst t12
    have t13 : b13 = true := by cases b13; exact (hn 13 (mem_ready.2 ⟨rfl, _, rfl, by simp [Region.binds]⟩)).elim; rfl
    subst t13
    have n0 := m0 rfl
    subst n0
    have n1 := m1 rfl
    subst n1
    have n2 := m2 rfl
    subst n2
    have n3 := m3 rfl
    subst n3
    have n4 := m4 rfl
    subst n4
    have n5 := m5 rfl
    subst n5
    have n6 := m6 rfl
    subst n6
    have n7 := m7 rfl
    subst n7
    have n8 := m8 rfl
    subst n8
    have n9 := m9 rfl
    subst n9
    have n10 := m10 rfl
    subst n10
    have n12 := m12 rfl
    subst n12
    clear hn hr m0 m1 m2 m3 m4 m5 m6 m7 m8 m9 m10 m12
    have b4 := j.new
    have bp := j.old
    simp only [if_true] at b4
    have k4 := HK52.out.trans' j.keep (H := fun x => w.heap.size ≤ x) (fun i hi e => by omega) (fun i hi e => by omega)
    have HM4 := Lib.hid b4; have HP4 := Lib.hid bp
    have HW4 := Lib.hid (show Keep (fun _ => False) w W4 from HK1.out.trans' k4 (fun _ _ e => e) (fun i hi e => by omega))
    have HL4 := Lib.hid (HL.out.keep HW4.out (fun _ _ e => e))
    clear j b4 bp k4 HK52 HK1 b52 hB2 hne hlt1
    go_wp2_with fail
    refine region_inv (fun listed a W' => ∃ (b0 b1 b2 b3 b4 b5 b6 b7 : Bool) (q41 q42 q43 q44 q45 q46 q10 q11 : Value), listed = #[b0, b1, b2, b3, b4, b5, b6, b7] ∧ a = { tmps := (Value.slice va N vc :: Value.agg #[Value.int IntKind.i64 pl, Value.int IntKind.i64 pd, Value.int IntKind.i64 pday, Value.int IntKind.i64 pw, strV ptag] :: Value.int IntKind.i64 last0 :: Value.int IntKind.i64 days0 :: undef :: Value.pointer (some { block := w.heap.size, off := 0 }) :: undef :: undef :: Value.bool false :: Value.pointer (some { block := w1.heap.size, off := 0 }) :: q10 :: q11 :: undef :: undef :: undef :: Value.bool true :: Value.bool false :: Value.slice va N vc :: Value.int IntKind.i64 ↑N :: Value.bool (decide ((30 : Int) < ↑N)) :: Value.pointer (some { block := w.heap.size, off := 0 }) :: Value.int IntKind.i64 pl :: Value.int IntKind.i64 l1 :: Value.pointer (some { block := w.heap.size, off := 1 }) :: Value.int IntKind.i64 pd :: Value.int IntKind.i64 d1 :: Value.pointer (some { block := w.heap.size, off := 0 }) :: Value.pointer (some { block := w.heap.size, off := 1 }) :: Value.agg (polCells { last := l1, days := d1, day := pday, within := pw, tag := ptag }) :: Value.pointer (some { block := w.heap.size, off := 0 }) :: Value.int IntKind.i64 l1 :: Value.int IntKind.i64 last0 :: Value.int IntKind.i64 xl :: Value.int IntKind.i64 l2 :: Value.pointer (some { block := w.heap.size, off := 1 }) :: Value.int IntKind.i64 d1 :: Value.int IntKind.i64 days0 :: Value.int IntKind.i64 xd :: Value.int IntKind.i64 d2 :: Value.pointer (some { block := w1.heap.size, off := 0 }) :: Value.pointer (some { block := w1.heap.size, off := 1 }) :: q41 :: q42 :: q43 :: q44 :: q45 :: q46 :: undef :: undef :: undef :: undef :: undef :: undef :: undef :: undef :: undef :: undef :: undef :: undef :: undef :: undef :: undef :: undef :: undef :: undef :: undef :: undef :: undef :: undef :: undef :: undef :: undef :: undef :: undef :: undef :: undef :: undef :: undef :: undef :: undef :: undef :: undef :: undef :: undef :: undef :: undef :: undef :: undef :: undef :: undef :: undef :: undef :: undef :: undef :: undef :: undef :: undef :: undef :: undef :: undef :: undef :: undef :: undef :: undef :: undef :: []).toArray, defers := [] } ∧  RMJ W4 N (.slice va N vc) (.agg (polCells ⟨l1, d1, pday, pw, ptag⟩)) (.agg (polCells ⟨l2, d2, pday, pw, ptag⟩)) A B b0 b1 b2 b3 b4 b5 b6 b7 q41 q42 q43 q44 q45 q46 q10 q11 W') (by kernel_rfl) ?h0 ?hs ?hd
    case h0 =>
      exact ⟨false, false, false, false, false, false, false, false, undef, undef, undef, undef, undef, undef, undef, undef, rfl, rfl, rmj0 W4⟩
    case hs =>
      rintro _ _ W5 ⟨b0, b1, b2, b3, b4, b5, b6, b7, q41, q42, q43, q44, q45, q46, q10, q11, rfl, rfl, j⟩ i hi
      obtain ⟨hun, o, ho, hall⟩ := mem_ready.1 hi
      clear hi
      have hlt : i < 8 := (Array.getElem?_eq_some_iff.1 ho).1
      match i, hlt with
      | 0, _ =>
        simp at ho hun
        subst ho; subst hun
        
        have HJ := Lib.hid j; clear j
        refine opStep_step rfl (fun K hK => ?_)
        have HK := Lib.hid hK; clear hK
        go_simp
        exact HK.out _ _ ⟨true, _, _, _, _, _, _, _, _, _, _, _, _, _, _, _, rfl, rfl, { HJ.out with m0 := fun _ => rfl, o2 := fun h => ⟨rfl, (HJ.out.o2 h).2⟩ }⟩
      | 1, _ =>
        simp at ho hun
        subst ho; subst hun
        obtain ⟨⟨y0, y1, y2, y3, y4⟩, -⟩ := five_cells (j.keep.heap HP4.out id)
        
        have HJ := Lib.hid j; clear j
        refine opStep_step rfl (fun K hK => ?_)
        have HK := Lib.hid hK; clear hK
        go_simp
        exact HK.out _ _ ⟨_, true, _, _, _, _, _, _, _, _, _, _, _, _, _, _, rfl, rfl, { HJ.out with m1 := fun _ => rfl, o2 := fun h => ⟨(HJ.out.o2 h).1, rfl⟩ }⟩
      | 2, _ =>
        simp at ho hun
        subst ho; subst hun
        have e0 := hall ⟨0, .data⟩ (by simp) rfl
        simp at e0
        subst e0
        have e1 := hall ⟨1, .data⟩ (by simp) rfl
        simp at e1
        subst e1
        have x0 := j.m0 rfl
        have x1 := j.m1 rfl
        subst x0; subst x1
        
        have HJ := Lib.hid j; clear j
        refine opStep_step rfl (fun K hK => ?_)
        have HK := Lib.hid hK; clear hK
        go_simp
        refine (HKA.out _ (HL4.out.keep HJ.out.keep (fun _ _ e => e))).mono ?_
        rintro e W6 ⟨ga, ca, rfl, k6, ba⟩
        exact HK.out _ _ ⟨_, _, true, _, _, _, _, _, _, _, _, _, _, _, _, _, rfl, rfl, { HJ.out.kept k6 with m2 := fun _ => ⟨ga, ca, rfl, ba⟩, o2 := fun _ => ⟨rfl, rfl⟩, m6 := fun h => (by have := (HJ.out.m6 h).1; cases this) }⟩
      | 3, _ =>
        simp at ho hun
        subst ho; subst hun
        
        have HJ := Lib.hid j; clear j
        refine opStep_step rfl (fun K hK => ?_)
        have HK := Lib.hid hK; clear hK
        go_simp
        exact HK.out _ _ ⟨_, _, _, true, _, _, _, _, _, _, _, _, _, _, _, _, rfl, rfl, { HJ.out with m3 := fun _ => rfl, o5 := fun h => ⟨rfl, (HJ.out.o5 h).2⟩ }⟩
      | 4, _ =>
        simp at ho hun
        subst ho; subst hun
        obtain ⟨⟨y0, y1, y2, y3, y4⟩, -⟩ := five_cells (j.keep.heap HM4.out id)
        
        have HJ := Lib.hid j; clear j
        refine opStep_step rfl (fun K hK => ?_)
        have HK := Lib.hid hK; clear hK
        go_simp
        exact HK.out _ _ ⟨_, _, _, _, true, _, _, _, _, _, _, _, _, _, _, _, rfl, rfl, { HJ.out with m4 := fun _ => rfl, o5 := fun h => ⟨(HJ.out.o5 h).1, rfl⟩ }⟩
      | 5, _ =>
        simp at ho hun
        subst ho; subst hun
        have e3 := hall ⟨3, .data⟩ (by simp) rfl
        simp at e3
        subst e3
        have e4 := hall ⟨4, .data⟩ (by simp) rfl
        simp at e4
        subst e4
        have x0 := j.m3 rfl
        have x1 := j.m4 rfl
        subst x0; subst x1
        
        have HJ := Lib.hid j; clear j
        refine opStep_step rfl (fun K hK => ?_)
        have HK := Lib.hid hK; clear hK
        go_simp
        refine (HKB.out _ (HL4.out.keep HJ.out.keep (fun _ _ e => e))).mono ?_
        rintro e W6 ⟨ga, ca, rfl, k6, ba⟩
        exact HK.out _ _ ⟨_, _, _, _, _, true, _, _, _, _, _, _, _, _, _, _, rfl, rfl, { HJ.out.kept k6 with m5 := fun _ => ⟨ga, ca, rfl, ba⟩, o5 := fun _ => ⟨rfl, rfl⟩, m7 := fun h => (by have := (HJ.out.m7 h).1; cases this) }⟩
      | 6, _ =>
        simp at ho hun
        subst ho; subst hun
        have e2 := hall ⟨2, .data⟩ (by simp) rfl
        simp at e2
        subst e2
        
        have HJ := Lib.hid j; clear j
        refine opStep_step rfl (fun K hK => ?_)
        have HK := Lib.hid hK; clear hK
        go_simp
        exact HK.out _ _ ⟨_, _, _, _, _, _, true, _, _, _, _, _, _, _, _, _, rfl, rfl, { HJ.out with m6 := fun _ => ⟨rfl, rfl⟩ }⟩
      | 7, _ =>
        simp at ho hun
        subst ho; subst hun
        have e5 := hall ⟨5, .data⟩ (by simp) rfl
        simp at e5
        subst e5
        
        have HJ := Lib.hid j; clear j
        refine opStep_step rfl (fun K hK => ?_)
        have HK := Lib.hid hK; clear hK
        go_simp
        exact HK.out _ _ ⟨_, _, _, _, _, _, _, true, _, _, _, _, _, _, _, _, rfl, rfl, { HJ.out with m7 := fun _ => ⟨rfl, rfl⟩ }⟩
    case hd =>
      rintro _ _ W5 ⟨b0, b1, b2, b3, b4, b5, b6, b7, q41, q42, q43, q44, q45, q46, q10, q11, rfl, rfl, j⟩ hr
      have hn : ∀ i, i ∈ Region.ready .any _ _ → False := fun i hi => by rw [hr] at hi; cases hi
      have t0 : b0 = true := by cases b0; exact (hn 0 (mem_ready.2 ⟨rfl, _, rfl, by simp [Region.binds]⟩)).elim; rfl
      subst t0
      have t1 : b1 = true := by cases b1; exact (hn 1 (mem_ready.2 ⟨rfl, _, rfl, by simp [Region.binds]⟩)).elim; rfl
      subst t1
      have t2 : b2 = true := by cases b2; exact (hn 2 (mem_ready.2 ⟨rfl, _, rfl, by simp [Region.binds]⟩)).elim; rfl
      subst t2
      have t3 : b3 = true := by cases b3; exact (hn 3 (mem_ready.2 ⟨rfl, _, rfl, by simp [Region.binds]⟩)).elim; rfl
      subst t3
      have t4 : b4 = true := by cases b4; exact (hn 4 (mem_ready.2 ⟨rfl, _, rfl, by simp [Region.binds]⟩)).elim; rfl
      subst t4
      have t5 : b5 = true := by cases b5; exact (hn 5 (mem_ready.2 ⟨rfl, _, rfl, by simp [Region.binds]⟩)).elim; rfl
      subst t5
      have t6 : b6 = true := by cases b6; exact (hn 6 (mem_ready.2 ⟨rfl, _, rfl, by simp [Region.binds]⟩)).elim; rfl
      subst t6
      have t7 : b7 = true := by cases b7; exact (hn 7 (mem_ready.2 ⟨rfl, _, rfl, by simp [Region.binds]⟩)).elim; rfl
      subst t7
      clear hn hr
      obtain ⟨ga, ca, e43, ba⟩ := j.m2 rfl
      obtain ⟨gb, cb, e46, bb⟩ := j.m5 rfl
      have e10 := (j.m6 rfl).2
      have e11 := (j.m7 rfl).2
      have x41 := j.m0 rfl
      have x42 := j.m1 rfl
      have x44 := j.m3 rfl
      have x45 := j.m4 rfl
      subst e10; subst e11; subst e43; subst e46; subst x41; subst x42; subst x44; subst x45
      have HBA := Lib.hid ba; have HBB := Lib.hid bb; have HL5 := Lib.hid (HL4.out.keep j.keep (fun _ _ e => e)); have HK5 := Lib.hid (HW4.out.trans j.keep); have HP5 := Lib.hid (j.keep.heap HP4.out id)
      clear j ba bb HL4 HW4 HP4 HM4 HKA HKB
      obtain ⟨i0, hi, hz0, hz1, hz2⟩ := info_parts infoSnapZ
      have rmi0 : RMI W5 L A 0 0 (.slice (some ⟨W5.heap.size, 0, none⟩) 0 0) (.slice (some ⟨W5.heap.size + 1, 0, none⟩) 0 0) ((W5.alloc (.cells #[] 108)).alloc (.cells #[] 108)) :=
        ⟨((Keep.refl _ W5).alloc _).alloc _, ⟨rfl, .inr ⟨_, 0, #[], rfl, Nat.le_refl _, alloc_blk (alloc_new _ _) _, Nat.le_refl _, Nat.zero_le _, rfl, rfl⟩⟩, ⟨rfl, .inr ⟨_, 0, #[], rfl, Nat.le_succ _, alloc_at (by simp) _, Nat.le_refl _, Nat.zero_le _, rfl, rfl⟩⟩, fun g e1 e2 => by simp [vblk] at e1 e2; omega⟩
      have RM0 := Lib.hid rmi0
      clear rmi0
      go_wp2
      go_loopg [12, 13, 51] N (fun g v12 v13 v51 wr => ∃ k : Nat, k ≤ N ∧ g = N - k ∧ v51 = .int .i64 k ∧ Hid (RMI W5 L A k k v12 v13 wr))
      case atStart => exact ⟨0, Nat.zero_le _, rfl, rfl, RM0⟩
      case round =>
        clear RM0
        obtain ⟨k, hk, hg, rfl, HR⟩ := hrel
        by_cases hlt : k < N
        · obtain ⟨s, hs⟩ : ∃ s, L[k]? = some s := ⟨_, List.getElem?_eq_getElem (by rw [← HN.out]; exact hlt)⟩
          obtain ⟨m, hm⟩ : ∃ m, m = N - 1 - k := ⟨_, rfl⟩
          obtain ⟨s2, hs2⟩ : ∃ s2, L[m]? = some s2 := ⟨_, List.getElem?_eq_getElem (by rw [← HN.out]; omega)⟩
          have hs2' := back_at (L := L) (k := k) (by rw [← HN.out, ← hm]; exact hs2) (by rw [← HN.out]; exact hlt)
          obtain ⟨bb, oo, cc, ev, _, _⟩ := Sl.base (HL5.out.keep HR.out.keep (fun _ _ e => e)) (by rw [← HN.out]; omega)
          rw [← HN.out] at ev
          cases ev
          obtain ⟨A1, hA1⟩ : ∃ A1, A1 = (snapCells s).toArray := ⟨_, rfl⟩
          obtain ⟨A2, hA2⟩ : ∃ A2, A2 = (snapCells s2).toArray := ⟨_, rfl⟩
          have hok1 := HOK.out s (List.mem_of_getElem? hs)
          have hok2 := HOK.out s2 (List.mem_of_getElem? hs2)
          have hld1 := fun (W : World) (K : Keep (fun _ => False) W5 W) => SnapsAt.load (HL5.out.keep K (fun _ _ e => e)) (ok32 HOK.out) hs
          have hld2 := fun (W : World) (K : Keep (fun _ => False) W5 W) => SnapsAt.load (HL5.out.keep K (fun _ _ e => e)) (ok32 HOK.out) hs2
          rw [← hA1] at hld1; rw [← hA2] at hld2
          have az1 : A1.size = 37 := by rw [hA1]; simpa using snapCells_len hok1.1
          have az2 : A2.size = 37 := by rw [hA2]; simpa using snapCells_len hok2.1
          have one1 : ∀ u ∈ A1.toList, u.oneCell' = true := by
            have := snap_one s
            rw [← hA1, ← Array.all_toList, List.all_eq_true] at this
            exact this
          have one2 : ∀ u ∈ A2.toList, u.oneCell' = true := by
            have := snap_one s2
            rw [← hA2, ← Array.all_toList, List.all_eq_true] at this
            exact this
          have hA1l : A1.toList = snapCells s := by rw [hA1]
          have hA2l : A2.toList = snapCells s2 := by rw [hA2]
          have i1 : (0 : Int) ≤ k := by omega
          have i2 : (k : Int) < N := by omega
          have j1 : (0 : Int) ≤ m := by omega
          have j2 : (m : Int) < N := by omega
          obtain ⟨n1, hn1⟩ : ∃ n1, n1 = N - 1 := ⟨_, rfl⟩
          have hw1 : IntKind.i64.wrap ((N : Int) - 1) = (n1 : Int) := by rw [IntKind.wrap_i64]; omega
          have hw2 : IntKind.i64.wrap ((n1 : Int) - k) = (m : Int) := by rw [IntKind.wrap_i64]; omega
          have hll := leftTo_le L A k
          obtain ⟨nl, hnl⟩ : ∃ nl, nl = (leftTo L A k).length := ⟨_, rfl⟩
          rw [← hnl] at hll
          have n4 : nl + 1 ≤ maxLen := by unfold maxLen; omega
          have n5 : (nl + 1) * 88 ≤ 140737488355328 := by omega
          have n6 : k + 1 ≤ maxLen := by unfold maxLen; omega
          have n7 : (k + 1) * 88 ≤ 140737488355328 := by omega
          obtain ⟨va1, vc1, rfl⟩ := own_slice HR.out.lf
          obtain ⟨va2, vc2, rfl⟩ := own_slice HR.out.bk
          obtain ⟨a, ha⟩ : ∃ a, A[k]? = some a := ⟨_, List.getElem?_eq_getElem (by rw [HAL.out]; exact hlt)⟩
          have cA := (HBA.out.keep HR.out.keep id).at ha
          have hsz := HR.out.keep.size
          have HG := Lib.hid hg; have HLT := Lib.hid hlt; have HS := Lib.hid hs; have HS2 := Lib.hid hs2'; have HLD1 := Lib.hid hld1; have HLD2 := Lib.hid hld2; have AZ1 := Lib.hid az1; have AZ2 := Lib.hid az2; have ONE1 := Lib.hid one1; have ONE2 := Lib.hid one2
          have HA1L := Lib.hid hA1l; have HA2L := Lib.hid hA2l; have HNL := Lib.hid hnl; have N4 := Lib.hid n4; have N5 := Lib.hid n5; have N6 := Lib.hid n6; have N7 := Lib.hid n7; have HM := Lib.hid hm; have HN1 := Lib.hid hn1
          have HSZ := Lib.hid hsz
          cases a with
          | true =>
            have hb := HMO.out k hlt ha
            have cB := (HBB.out.keep HR.out.keep id).at hb
            have HAK := Lib.hid ha
            clear hg hlt hs hs2 hs2' hld1 hld2 az1 az2 one1 one2 hA1 hA2 hA1l hA2l hnl hll n4 n5 n6 n7 hm hn1 hk hok1 hok2 ha hb hsz
            rw [← HNL.out]
            go_wp2_with (first
              | (refine wpList_load_run rfl 108 (.tmp 72) rfl _ rfl _ (HLD1.out _ HR.out.keep) ?_)
              | (refine wpList_build_snap rfl (.tmp 73) rfl A1 rfl AZ1.out ?_)
              | (at_builtin; (refine wpList_append_sl rfl (.tmp 69) (.tmp 74) 93 rfl W5.heap.size 108 i0 _ 37 88 Try.underlying93 hi hz0 hz1 hz2 rfl (by decide) (.slice va1 nl vc1) nl ((leftTo L A k).flatMap snapCells) rfl (by have := HR.out.lf.alloc (.cells A1 108); rw [← HNL.out] at this; exact this) _ 1 A1.toList rfl (sl_made wr 37 1 A1 108 AZ1.out (by decide)) ONE1.out N4.out N5.out (by have := HSZ.out; simp; omega) ?_); intro v8 Y1 hown1 hk1 hb1
                 have HR1 := Lib.hid ((show RMI W5 L A k k (.slice va1 nl vc1) (.slice va2 k vc2) wr by rw [HNL.out]; exact HR.out).left HS.out HAK.out (by rw [← HNL.out, ← HA1L.out]; exact hown1) hk1 hb1)
                 obtain ⟨va3, vc3, e3⟩ := own_slice hown1; subst e3; clear hown1 hk1 hb1)
              | (refine wpList_load_run rfl 108 (.tmp 83) rfl _ rfl _ (HLD2.out _ HR1.out.keep) ?_)
              | (refine wpList_build_snap rfl (.tmp 84) rfl A2 rfl AZ2.out ?_)
              | (at_builtin; (refine wpList_append_sl rfl (.tmp 76) (.tmp 85) 93 rfl W5.heap.size 108 i0 _ 37 88 Try.underlying93 hi hz0 hz1 hz2 rfl (by decide) (.slice va2 k vc2) k ((L.reverse.take k).flatMap snapCells) rfl (HR1.out.bk.alloc (.cells A2 108)) _ 1 A2.toList rfl (sl_made Y1 37 1 A2 108 AZ2.out (by decide)) ONE2.out N6.out N7.out (by have := HR1.out.keep.size; simp; omega) ?_); intro v9 Y2 hown2 hk2 hb2
                 have HR2 := Lib.hid (HR1.out.back HS2.out (by rw [← HA2L.out]; exact hown2) hk2 hb2)
                 obtain ⟨va4, vc4, e4⟩ := own_slice hown2; subst e4; clear hown2 hk2 hb2))
            go_roundg (N - (k + 1))
            case measure => have := HG.out; have := HLT.out; omega
            case rel => exact ⟨k + 1, HLT.out, rfl, by go_num, HR2.out⟩
          | false =>
            have HR1 := Lib.hid (HR.out.skip hs ha)
            clear hg hlt hs hs2 hs2' hld1 hld2 az1 az2 one1 one2 hA1 hA2 hA1l hA2l hnl hll n4 n5 n6 n7 hm hn1 hk hok1 hok2 ha hsz
            rw [← HNL.out]
            go_wp2_with (first
              | (refine wpList_load_run rfl 108 (.tmp 83) rfl _ rfl _ (HLD2.out _ HR1.out.keep) ?_)
              | (refine wpList_build_snap rfl (.tmp 84) rfl A2 rfl AZ2.out ?_)
              | (at_builtin; (refine wpList_append_sl rfl (.tmp 76) (.tmp 85) 93 rfl W5.heap.size 108 i0 _ 37 88 Try.underlying93 hi hz0 hz1 hz2 rfl (by decide) (.slice va2 k vc2) k ((L.reverse.take k).flatMap snapCells) rfl (HR1.out.bk.alloc (.cells A2 108)) _ 1 A2.toList rfl (sl_made wr 37 1 A2 108 AZ2.out (by decide)) ONE2.out N6.out N7.out (by have := HR1.out.keep.size; simp; omega) ?_); intro v9 Y2 hown2 hk2 hb2
                 have HR2 := Lib.hid (HR1.out.back HS2.out (by rw [← HA2L.out]; exact hown2) hk2 hb2)
                 obtain ⟨va4, vc4, e4⟩ := own_slice hown2; subst e4; clear hown2 hk2 hb2))
            go_roundg (N - (k + 1))
            case measure => have := HG.out; have := HLT.out; omega
            case rel => exact ⟨k + 1, HLT.out, rfl, by go_num, by rw [HNL.out]; exact HR2.out⟩
        · have hkN : k = N := by omega
          subst hkN
          have hA := HA.out
          have e1 : leftTo L A k = leftL L A := leftTo_all (by rw [← HN.out]; exact Nat.le_refl _) (by rw [HAL.out]; exact Nat.le_refl _)
          have e2 : L.reverse.take k = L.reverse := List.take_of_length_le (by rw [List.length_reverse, ← HN.out]; exact Nat.le_refl _)
          obtain ⟨va1, vc1, rfl⟩ := own_slice HR.out.lf
          obtain ⟨va2, vc2, rfl⟩ := own_slice HR.out.bk
          have hLS : SnapsAt wr (.slice va1 (leftTo L A k).length vc1) (leftL L A) := by rw [← e1]; exact (Sl.of_owns HR.out.lf).1
          have hRS : SnapsAt wr (.slice va2 k vc2) L.reverse := by
            have := (Sl.of_owns HR.out.bk).1
            rw [e2] at this
            unfold SnapsAt
            rw [List.length_reverse, ← HN.out]; exact this
          rw [e1] at hLS
          have hnle : (leftL L A).length ≤ k := by rw [← e1]; exact leftTo_le L A k
          obtain ⟨P1, hP1⟩ := places_ex (leftL L A)
          obtain ⟨D1, hD1⟩ := days_ex (leftL L A) pday
          obtain ⟨P2, hP2⟩ := places_ex L.reverse
          obtain ⟨D2, hD2⟩ := days_ex L.reverse pday
          have hzero : ((goneL (keepB (leftL L A) P1 ⟨l1, d1, pday, pw, ptag⟩ D1)).take (1 : Int).toNat).length = 0 := by
            subst hA
            rw [more_zero (p := ⟨l1, d1, pday, pw, ptag⟩) HP.out HD.out hP1 hD1]; rfl
          have hrest : ((goneL (keepB L.reverse P2 ⟨l1, d1, pday, pw, ptag⟩ D2)).take (1000 : Int).toNat).length = k - (leftL L A).length := by
            have := more_rest (p := ⟨l1, d1, pday, pw, ptag⟩) HP.out HD.out hP2 hD2 (by rw [← HN.out]; exact h30)
            rw [← hA, ← HN.out] at this
            exact this
          have hb := HB1.out
          have g1 := gone_at (p := ⟨l1, d1, pday, pw, ptag⟩) (most := 1) hLS (fun s hs => HOK.out s (leftL_mem hs)) (by omega) (by unfold In64; dsimp only; omega) (by unfold In64; dsimp only; omega) HWI.out hP1 hD1 (by decide) (by decide)
          have g2 := fun (W : World) (K : Keep (fun _ => False) wr W) => gone_at (p := ⟨l1, d1, pday, pw, ptag⟩) (most := 1000) (hRS.keep K (fun _ _ e => e)) (fun s hs => HOK.out s (List.mem_reverse.1 hs)) (by rw [List.length_reverse, ← HN.out]; exact h30) (by unfold In64; dsimp only; omega) (by unfold In64; dsimp only; omega) HWI.out hP2 hD2 (by decide) (by decide)
          unfold GonePost at g1 g2
          rw [hzero] at g1
          rw [hrest] at g2
          rw [e1]
          obtain ⟨nl, hnl⟩ : ∃ nl, nl = (leftL L A).length := ⟨_, rfl⟩
          rw [← hnl] at g1 g2 hnle ⊢
          obtain ⟨z, hz⟩ : ∃ z, z = k - nl := ⟨_, rfl⟩
          have hwz : IntKind.i64.wrap ((k : Int) - nl) = (z : Int) := by rw [IntKind.wrap_i64]; omega
          rw [← hz] at g2
          have hbp := HR.out.keep.heap HP5.out id
          have HG1 := Lib.hid g1; have HG2 := Lib.hid g2; have HBP := Lib.hid hbp; have HKF := Lib.hid (HK5.out.trans HR.out.keep)
          obtain ⟨⟨y0, y1, y2, y3, y4⟩, -⟩ := five_cells hbp
          clear g1 g2 hbp hz hnl hrest hzero hP1 hD1 hP2 hD2 hLS hRS e1 e2 hA hb hg hk hlt HR hz0 hz1 hz2 hi
          go_wp2_with fail
          refine HG1.out.mono ?_
          rintro e w7 ⟨r7, c7, rfl, -, k7⟩
          obtain ⟨⟨x0, x1, x2, x3, x4⟩, -⟩ := five_cells (k7.heap HBP.out id)
          have HG3 := Lib.hid (HG2.out w7 k7); have HK7 := Lib.hid (HKF.out.trans k7)
          clear k7 HG1 HG2 HBP y0 y1 y2 y3 y4 HKF
          go_wp2_with fail
          refine HG3.out.mono ?_
          rintro e w8 ⟨r8, c8, rfl, -, k8⟩
          have HK8 := Lib.hid (HK7.out.trans k8)
          clear k8 HG3 HK7 x0 x1 x2 x3 x4
          go_wp2
          go_ret
          exact ⟨rfl, HK8.out⟩

set_option maxRecDepth 100000 in
theorem rmore_any {w : World} {v : Value} {L : List SnapR} (hL : SnapsAt w v L) (hOK : ∀ s ∈ L, SnapOK s) (p : PolR) (_h1 : In64 p.last) (_h2 : In64 p.days) (hday : In64 p.day) (hwi : In64 p.within) (last0 : Int) (_hl : -9223372036854775808 ≤ last0 ∧ last0 ≤ 9223372036854775807) (days0 : Int) (_hd : -9223372036854775808 ≤ days0 ∧ days0 ≤ 9223372036854775807) :
    Calls Try.prog 12 #[v, .agg (polCells p), .int .i64 last0, .int .i64 days0] w fun e w' => e = .returned (.bool true) ∧ Keep (fun _ => False) w w' := by
  by_cases h : L.length ≤ 30
  · exact rmore_short hL hOK h hday hwi last0 days0
  · obtain ⟨va, vc, rfl⟩ : ∃ p k, v = .slice p L.length k := let ⟨_, p, k, e, _⟩ := hL; ⟨p, k, e⟩
    have h' : ¬ (L.length : Int) ≤ 30 := by omega
    clear h hL
    obtain ⟨pl, pd, pday, pw, ptag⟩ := p
    unfold polCells
    dsimp only
    go_enter Try.func12, Try.ntmps12
    go_wp2_with fail
    refine (alive19_any _).mono ?_
    rintro e w1 ⟨rfl, k1⟩
    have HK := Lib.hid (((Keep.refl (fun _ => False) w).alloc _).trans k1)
    clear k1
    go_wp2
    go_ret
    exact ⟨rfl, HK.out⟩
end Go.Proofs.Ytgnigkghkldcfaa
