/-
  coldstorelaw19.RetainKeeps: true.
-/
import Derived.Test.YtgnigkghkldcfaaRKeeps1
namespace Go.Proofs.Ytgnigkghkldcfaa
open Go.RowKit Go.Proofs Go.Lib Go.Maps Go.Sort Go.Shelf

set_option maxRecDepth 100000 in
set_option maxHeartbeats 16000000 in
theorem rkeeps_short {w : World} {v : Value} {L : List SnapR} {p : PolR} (hL : SnapsAt w v L) (hOK : ∀ s ∈ L, SnapOK s) (h30 : L.length ≤ 30) (hlast : In64 p.last) (hdays : In64 p.days) (hday : In64 p.day) (hwi : In64 p.within) (most0 : Int) :
    Calls Try.prog 11 #[v, .agg (polCells p), .int .i64 most0] w fun e w' => e = .returned (.bool true) ∧ Keep (fun _ => False) w w' := by
  obtain ⟨va, vc, rfl⟩ : ∃ a c, v = .slice a L.length c := let ⟨_, a, c, e, _⟩ := hL; ⟨a, c, e⟩
  obtain ⟨pl, pd, pday, pw, ptag⟩ := p
  dsimp only at hlast hdays hday hwi
  obtain ⟨m7, em7, -, hm1, hm2⟩ := mask_in 3 (by decide) 7 (by decide) most0
  simp only [Nat.reducePow] at hm2
  have hm : 0 ≤ m7 ∧ m7 ≤ 7 := by omega
  obtain ⟨N, hN⟩ : ∃ N, N = L.length := ⟨_, rfl⟩
  obtain ⟨P, hP⟩ := places_ex L
  obtain ⟨D, hD⟩ := days_ex L pday
  have hDl := days_len hD
  rw [← hN] at hL h30 hDl ⊢
  have n30 : (N : Int) ≤ 30 := by omega
  have HKA := Lib.hid (fun (W : World) (h : SnapsAt W (.slice va N vc) L) => keep_at (p := ⟨pl, pd, pday, pw, ptag⟩) h hOK (by omega) hlast hdays hwi hP hD)
  have HKR := Lib.hid (fun (W : World) (u : Value) (h : SnapsAt W u L) => rkeep_any (p := ⟨pl, pd, pday, pw, ptag⟩) h (ok32 hOK) (ok64 hOK) (by omega) hday hwi hP hD (by omega))
  have HAS := Lib.hid (fun (W : World) (h : SnapsAt W (.slice va N vc) L) => as_any h hOK (by omega))
  have HDA := Lib.hid (fun (W : World) (h : SnapsAt W (.slice va N vc) L) => days_at h hOK (by omega) hD)
  have HDR := Lib.hid (fun (W : World) (u : Value) (h : SnapsAt W u L) => (show Calls Try.prog 58 #[u, .int .i64 pday] W fun e w' => ∃ d, e = .returned d ∧ Keep (fun _ => False) W w' ∧ Sl w' 1 d D.length (D.map (.int .i64)) from by
    refine (rdaysref_any h (ok32 hOK) (ok64 hOK) (by omega) hday).mono ?_
    rintro e w' ⟨d, D', rfl, k, hD', hs, -⟩
    obtain rfl := hD'.eq hD
    exact ⟨d, rfl, k, hs⟩))
  have HGO := Lib.hid (fun (W : World) (h : SnapsAt W (.slice va N vc) L) (most : Int) (hm : most ≤ 4000000000000000000) => gone_le (p := ⟨pl, pd, pday, pw, ptag⟩) h hOK (by omega) hlast hdays hwi hP hD hm)
  have hAl0 : (keepB L P ⟨pl, pd, pday, pw, ptag⟩ D).length = N := by rw [keepB_len, hN]
  unfold GonePost at HGO
  obtain ⟨A, hA⟩ : ∃ A, A = keepB L P ⟨pl, pd, pday, pw, ptag⟩ D := ⟨_, rfl⟩
  rw [← hA] at HKA HKR HGO hAl0
  rw [← hN] at HKA HKR
  have HL := Lib.hid hL; have HN := Lib.hid hN; have HAL := Lib.hid hAl0; have HDL := Lib.hid hDl; have HM := Lib.hid hm
  clear hL hOK hN hP hD hA hAl0 hDl hlast hdays hday hwi hm1 hm2 hm
  unfold polCells at HKA HKR HGO ⊢
  dsimp only at HKA HKR HGO ⊢
  go_enter Try.func11, Try.ntmps11
  go_wp2_with fail
  refine (alive19_any _).mono ?_
  rintro e w1 ⟨rfl, k1⟩
  have b5 := k1.heap (alloc_new w (.cells #[.int .i64 pl, .int .i64 pd, .int .i64 pday, .int .i64 pw, strV ptag] 95)) id
  have HK1 := Lib.hid (((Keep.refl (fun _ => False) w).alloc _).trans k1)
  have hpl := fun (W : World) (K : Keep (fun _ => False) w1 W) => load_box (P := Try.prog) (ty := 95) (K.heap b5 id) Try.underlying95 rfl (by rw [infoPolicy]; rfl)
  have HPL := Lib.hid hpl; have HB5 := Lib.hid b5
  clear b5 k1 hpl
  go_wp2_with (refine wpList_load_run rfl 95 (.tmp 4) rfl _ rfl _ (HPL.out _ (Keep.refl _ _)) ?_)
  refine (HKA.out _ (HL.out.keep HK1.out (fun _ _ e => e))).mono ?_
  rintro e w2 ⟨ga, ca, rfl, k2, ba⟩
  have HBA := Lib.hid ba; have HW2 := Lib.hid (HK1.out.trans k2); have HP2 := Lib.hid (k2.heap HB5.out id)
  have HL2 := Lib.hid (HL.out.keep HW2.out (fun _ _ e => e))
  clear k2 ba HB5 HK1 HL HKA HPL
  -- region 6
  go_wp2_with fail
  refine region_inv (fun listed a W' => ∃ (b0 b1 b2 b3 b4 : Bool) (q22 q23 q24 q25 q8 : Value), listed = #[b0, b1, b2, b3, b4] ∧ a = { tmps := (Value.slice va N vc :: Value.agg #[Value.int IntKind.i64 pl, Value.int IntKind.i64 pd, Value.int IntKind.i64 pday, Value.int IntKind.i64 pw, strV ptag] :: Value.int IntKind.i64 most0 :: undef :: Value.pointer (some { block := w.heap.size, off := 0 }) :: undef :: Value.bool false :: Value.slice (some { block := ga, off := 0 }) N ca :: q8 :: undef :: undef :: undef :: undef :: undef :: Value.bool true :: Value.bool false :: Value.slice va N vc :: Value.int IntKind.i64 ↑N :: Value.bool (decide ((30 : Int) < ↑N)) :: Value.slice va N vc :: Value.agg #[Value.int IntKind.i64 pl, Value.int IntKind.i64 pd, Value.int IntKind.i64 pday, Value.int IntKind.i64 pw, strV ptag] :: Value.slice (some { block := ga, off := 0 }) N ca :: q22 :: q23 :: q24 :: q25 :: undef :: undef :: undef :: undef :: undef :: undef :: undef :: undef :: undef :: undef :: undef :: undef :: undef :: undef :: undef :: undef :: undef :: undef :: undef :: undef :: undef :: undef :: undef :: undef :: undef :: undef :: undef :: undef :: undef :: undef :: undef :: undef :: undef :: undef :: undef :: undef :: undef :: undef :: undef :: undef :: undef :: undef :: undef :: undef :: undef :: undef :: undef :: undef :: undef :: undef :: undef :: undef :: undef :: undef :: undef :: undef :: undef :: undef :: undef :: undef :: undef :: undef :: undef :: undef :: undef :: undef :: undef :: undef :: undef :: undef :: undef :: undef :: undef :: undef :: undef :: undef :: undef :: undef :: []).toArray, defers := [] } ∧  RKJ w2 N L (.slice va N vc) (.agg #[.int .i64 pl, .int .i64 pd, .int .i64 pday, .int .i64 pw, strV ptag]) A b0 b1 b2 b3 b4 q22 q23 q24 q25 q8 W') (by kernel_rfl) ?h0 ?hs ?hd
  case h0 =>
    exact ⟨false, false, false, false, false, undef, undef, undef, undef, undef, rfl, rfl, rkj0 w2⟩
  case hs =>
    rintro _ _ W5 ⟨b0, b1, b2, b3, b4, q22, q23, q24, q25, q8, rfl, rfl, j⟩ i hi
    obtain ⟨hun, o, ho, hall⟩ := mem_ready.1 hi
    clear hi
    have hlt : i < 5 := (Array.getElem?_eq_some_iff.1 ho).1
    match i, hlt with
    | 0, _ =>
      simp at ho hun
      subst ho; subst hun
      
      have HJ := Lib.hid j; clear j
      refine opStep_step rfl (fun K hK => ?_)
      have HK := Lib.hid hK; clear hK
      go_simp
      exact HK.out _ _ ⟨true, _, _, _, _, _, _, _, _, _, rfl, rfl, { HJ.out with m0 := fun _ => rfl }⟩
    | 1, _ =>
      simp at ho hun
      subst ho; subst hun
      have e0 := hall ⟨0, .data⟩ (by simp) rfl
      simp at e0
      subst e0
      have x0 := j.m0 rfl
      subst x0
      
      have HJ := Lib.hid j; clear j
      refine opStep_step rfl (fun K hK => ?_)
      have HK := Lib.hid hK; clear hK
      go_simp
      refine (HAS.out _ (HL2.out.keep HJ.out.keep (fun _ _ e => e))).mono ?_
      rintro e W6 ⟨u, rfl, k6, hu⟩
      exact HK.out _ _ ⟨_, true, _, _, _, _, _, _, _, _, rfl, rfl, { HJ.out.kept k6 with m1 := fun _ => hu }⟩
    | 2, _ =>
      simp at ho hun
      subst ho; subst hun
      obtain ⟨⟨y0, y1, y2, y3, y4⟩, -⟩ := five_cells (j.keep.heap HP2.out id)
      
      have HJ := Lib.hid j; clear j
      refine opStep_step rfl (fun K hK => ?_)
      have HK := Lib.hid hK; clear hK
      go_simp
      exact HK.out _ _ ⟨_, _, true, _, _, _, _, _, _, _, rfl, rfl, { HJ.out with m2 := fun _ => rfl }⟩
    | 3, _ =>
      simp at ho hun
      subst ho; subst hun
      have e1 := hall ⟨1, .data⟩ (by simp) rfl
      simp at e1
      subst e1
      have e2 := hall ⟨2, .data⟩ (by simp) rfl
      simp at e2
      subst e2
      have x2 := j.m2 rfl
      subst x2
      
      have HJ := Lib.hid j; clear j
      refine opStep_step rfl (fun K hK => ?_)
      have HK := Lib.hid hK; clear hK
      go_simp
      refine (HKR.out _ q23 (HJ.out.m1 rfl)).mono ?_
      rintro e W6 ⟨gw, cw, rfl, k6, bw⟩
      exact HK.out _ _ ⟨_, _, _, true, _, _, _, _, _, _, rfl, rfl, { HJ.out.kept k6 with m3 := fun _ => ⟨gw, cw, rfl, bw⟩, m4 := fun h => (by have := (HJ.out.m4 h).1; cases this) }⟩
    | 4, _ =>
      simp at ho hun
      subst ho; subst hun
      have e3 := hall ⟨3, .data⟩ (by simp) rfl
      simp at e3
      subst e3
      
      have HJ := Lib.hid j; clear j
      refine opStep_step rfl (fun K hK => ?_)
      have HK := Lib.hid hK; clear hK
      go_simp
      exact HK.out _ _ ⟨_, _, _, _, true, _, _, _, _, _, rfl, rfl, { HJ.out with m4 := fun _ => ⟨rfl, rfl⟩ }⟩
  case hd =>
    rintro _ _ W5 ⟨b0, b1, b2, b3, b4, q22, q23, q24, q25, q8, rfl, rfl, j⟩ hr
    have hn : ∀ i, i ∈ Region.ready .any _ _ → False := fun i hi => by rw [hr] at hi; cases hi
    have t0 : b0 = true := by cases b0; exact (hn 0 (mem_ready.2 ⟨rfl, _, rfl, by simp [Region.binds]⟩)).elim; rfl
    subst t0
    have t1 : b1 = true := by cases b1; exact (hn 1 (mem_ready.2 ⟨rfl, _, rfl, by simp [Region.binds]⟩)).elim; rfl
    subst t1
    have t2 : b2 = true := by cases b2; exact (hn 2 (mem_ready.2 ⟨rfl, _, rfl, by simp [Region.binds]⟩)).elim; rfl
    subst t2
    have t3 : b3 = true := by cases b3; exact (hn 3 (mem_ready.2 ⟨rfl, _, rfl, by simp [Region.binds]⟩)).elim; rfl
    subst t3
    have t4 : b4 = true := by cases b4; exact (hn 4 (mem_ready.2 ⟨rfl, _, rfl, by simp [Region.binds]⟩)).elim; rfl
    subst t4
    clear hn hr
    obtain ⟨gw, cw, e25, bw⟩ := j.m3 rfl
    have e8 := (j.m4 rfl).2
    have x22 := j.m0 rfl
    have x24 := j.m2 rfl
    subst e8; subst e25; subst x22; subst x24
    have HBW := Lib.hid bw; have HB5 := Lib.hid (HBA.out.keep j.keep id); have HL5 := Lib.hid (HL2.out.keep j.keep (fun _ _ e => e)); have HK5 := Lib.hid (HW2.out.trans j.keep); have HP5 := Lib.hid (j.keep.heap HP2.out id)
    clear j bw HL2 HW2 HP2 HBA HKR
    obtain ⟨i0, hi, hz0, hz1, hz2⟩ := info_parts info_int
    have own0 : (W5.alloc (.cells #[] 3)).ownsRow W5.heap.size 3 1 (.slice (some ⟨W5.heap.size, 0, none⟩) 0 0) (goneTo A 0).length (natsV (goneTo A 0)) :=
      ⟨rfl, .inr ⟨_, 0, #[], rfl, Nat.le_refl _, alloc_new _ _, Nat.le_refl _, Nat.zero_le _, rfl, rfl⟩⟩
    have OWN0 := Lib.hid own0
    clear own0
    go_wp2
    go_loopg [9, 34] N (fun g v9 v34 wr => ∃ k : Nat, k ≤ N ∧ g = N - k ∧ v34 = .int .i64 k ∧ Hid (wr.ownsRow W5.heap.size 3 1 v9 (goneTo A k).length (natsV (goneTo A k))) ∧ Hid (Keep (fun _ => False) W5 wr))
    case atStart => exact ⟨0, Nat.zero_le _, rfl, rfl, OWN0.out, (Keep.refl _ _).alloc _⟩
    case round =>
      clear OWN0
      obtain ⟨k, hk, hg, rfl, HOW, HKP⟩ := hrel
      by_cases hlt : k < N
      · obtain ⟨b, hb⟩ : ∃ b, A[k]? = some b := ⟨_, List.getElem?_eq_getElem (by rw [HAL.out]; exact hlt)⟩
        obtain ⟨wb, wo, wc, ev, _, _⟩ := Sl.base HBW.out (by omega)
        cases ev
        have c1 : wr.cell? ⟨ga, k, none⟩ = some (.bool b) := (HB5.out.keep HKP.out id).at hb
        have c2 : wr.cell? ⟨wb, wo + k, none⟩ = some (.bool b) := Sl.at1 (Sl.keep HBW.out HKP.out (fun _ _ _ e => e)) (by rw [List.getElem?_map, hb]; rfl)
        have hstep := goneTo_step hb
        have hlen := goneTo_le A k
        obtain ⟨m, hm⟩ : ∃ m, m = (goneTo A k).length := ⟨_, rfl⟩
        have hmk : m ≤ 30 := by omega
        have HOW' := HOW.out
        rw [← hm] at HOW'
        obtain ⟨va1, vc1, rfl⟩ := own_slice HOW'
        have HG := Lib.hid hg; have HLT := Lib.hid hlt; have HMK := Lib.hid hmk; have HST := Lib.hid hstep; have HMM := Lib.hid hm; have HOX := Lib.hid HOW'
        have HLO := Lib.hid (fun x (e : vblk (.slice va1 m vc1) = some x) => (own_lt HOW' x e).1)
        have i1 : (0 : Int) ≤ k := by omega
        have i2 : (k : Int) < N := by omega
        clear hg hlt hk hlen hmk hstep hm HOW HOW' hb
        cases b
        case true =>
          have HS2 := Lib.hid (show goneTo A (k + 1) = goneTo A k by rw [HST.out]; simp)
          go_wp2_with fail
          refine wp_region_still_lit (by kernel_rfl) (by kernel_rfl) ?_
          try dsimp only
          iterate 9 (with_reducible refine still_at ?hw (fun K hK => ?_); (case hw => kernel_rfl); go_simp; with_reducible refine hK _ ?_; clear hK K)
          with_reducible refine wpStill_nil ?_
          go_wp2
          go_roundg (N - (k + 1))
          case measure => have := HG.out; have := HLT.out; omega
          case rel => exact ⟨k + 1, HLT.out, rfl, by go_num, (by rw [HS2.out, ← HMM.out]; exact own_keep HOX.out ((Keep.refl (fun _ => False) wr).drew) (fun _ _ e => e)), HKP.out.drew⟩
        case false =>
          have HS2 := Lib.hid (show goneTo A (k + 1) = goneTo A k ++ [k] by rw [HST.out]; simp)
          go_wp2_with fail
          refine wp_region_still_lit (by kernel_rfl) (by kernel_rfl) ?_
          try dsimp only
          iterate 9 (with_reducible refine still_at ?hw (fun K hK => ?_); (case hw => kernel_rfl); go_simp; with_reducible refine hK _ ?_; clear hK K)
          with_reducible refine wpStill_nil ?_
          go_wp2_with (at_builtin; refine wpList_append_sl rfl (.tmp 51) (.tmp 53) 45 rfl W5.heap.size 3 i0 _ 1 8 Try.underlying45 hi hz0 hz1 hz2 rfl (by decide) (.slice va1 m vc1) m (natsV (goneTo A k)) rfl (own_keep HOX.out (((Keep.refl (fun _ => False) wr).drew).alloc _) (fun _ _ e => e)) _ 1 [.int .i64 (k : Int)] rfl (sl_made _ 1 1 #[.int .i64 (k : Int)] 3 rfl (by decide)) (fun u hu => by simp at hu; rw [hu]; rfl) (by unfold maxLen; have := HMK.out; omega) (by have := HMK.out; omega) (by have := HKP.out.size; simp; omega) ?_; intro v1 Y1 hown1 hk1 hb1; obtain ⟨g1, c1', e1, O1, KX1, B1, Z1⟩ := own_next ((HKP.out.drew).alloc _) HLO.out hown1 hk1 hb1; subst e1; clear hown1 hk1 hb1)
          go_roundg (N - (k + 1))
          case measure => have := HG.out; have := HLT.out; omega
          case rel => exact ⟨k + 1, HLT.out, rfl, by go_num, (by rw [HS2.out, List.length_append, ← HMM.out]; unfold natsV; rw [List.map_append]; exact O1.out), KX1.out⟩
      · have hkN : k = N := by omega
        subst hkN
        have HX := HOW.out
        rw [show goneTo A k = goneL A from by rw [← HAL.out]; rfl] at HX
        have HGL := Lib.hid (show (goneL A).length ≤ 30 from by have := goneTo_le A k; rw [show goneTo A k = goneL A from by rw [← HAL.out]; rfl] at this; omega)
        obtain ⟨X, hX⟩ : ∃ X, X = goneL A := ⟨_, rfl⟩
        rw [← hX] at HX HGO HGL
        obtain ⟨va3, vc3, rfl⟩ := own_slice HX
        have hNO := (Sl.of_owns HX).1
        have HL7 := Lib.hid (HL5.out.keep HKP.out (fun _ _ e => e)); have HK7 := Lib.hid (HK5.out.trans HKP.out); have HP7 := Lib.hid (HKP.out.heap HP5.out id); have HNO := Lib.hid hNO
        clear hX HX HOW HKP HL5 HK5 HP5 hg hk hlt hNO HB5 HBW
        -- region 18
        go_wp2_with fail
        refine region_inv (fun listed a W' => ∃ (b0 b1 b2 b3 b4 b5 b6 b7 b8 b9 b10 : Bool) (q56 q57 q58 q59 q60 q61 q62 q63 q64 q11 q12 : Value), listed = #[b0, b1, b2, b3, b4, b5, b6, b7, b8, b9, b10] ∧ a = { tmps := (Value.slice va k vc :: Value.agg #[Value.int IntKind.i64 pl, Value.int IntKind.i64 pd, Value.int IntKind.i64 pday, Value.int IntKind.i64 pw, strV ptag] :: Value.int IntKind.i64 most0 :: undef :: Value.pointer (some { block := w.heap.size, off := 0 }) :: undef :: u6 :: Value.slice (some { block := ga, off := 0 }) k ca :: Value.slice gw k cw :: Value.slice va3 X.length vc3 :: u10 :: q11 :: q12 :: undef :: Value.bool true :: Value.bool false :: Value.slice va k vc :: Value.int IntKind.i64 ↑k :: Value.bool (decide ((30 : Int) < ↑k)) :: Value.slice va k vc :: Value.agg #[Value.int IntKind.i64 pl, Value.int IntKind.i64 pd, Value.int IntKind.i64 pday, Value.int IntKind.i64 pw, strV ptag] :: Value.slice (some { block := ga, off := 0 }) k ca :: Value.slice va k vc :: q23 :: Value.agg #[Value.int IntKind.i64 pl, Value.int IntKind.i64 pd, Value.int IntKind.i64 pday, Value.int IntKind.i64 pw, strV ptag] :: Value.slice gw k cw :: Value.slice (some { block := ga, off := 0 }) k ca :: Value.int IntKind.i64 ↑k :: Value.slice gw k cw :: Value.int IntKind.i64 ↑k :: Value.bool false :: Value.slice (some { block := W5.heap.size, off := 0 }) 0 0 :: Value.slice gw k cw :: Value.int IntKind.i64 ↑k :: Value.int IntKind.i64 ↑k :: Value.bool false :: u36 :: u37 :: u38 :: u39 :: u40 :: u41 :: u42 :: u43 :: u44 :: u45 :: u46 :: u47 :: u48 :: u49 :: u50 :: u51 :: u52 :: u53 :: u54 :: u55 :: q56 :: q57 :: q58 :: q59 :: q60 :: q61 :: q62 :: q63 :: q64 :: undef :: undef :: undef :: undef :: undef :: undef :: undef :: undef :: undef :: undef :: undef :: undef :: undef :: undef :: undef :: undef :: undef :: undef :: undef :: undef :: undef :: undef :: undef :: undef :: undef :: undef :: undef :: undef :: undef :: undef :: undef :: undef :: undef :: undef :: undef :: undef :: undef :: undef :: undef :: []).toArray, defers := [] } ∧  RKD wr L (.slice va k vc) (.pointer (some ⟨w.heap.size, 2, none⟩)) pday D b0 b1 b2 b3 b4 b5 b6 b7 b8 b9 b10 q56 q57 q58 q59 q60 q61 q62 q63 q64 q11 q12 W') (by kernel_rfl) ?h0 ?hs ?hd
        case h0 =>
          exact ⟨false, false, false, false, false, false, false, false, false, false, false, undef, undef, undef, undef, undef, undef, undef, undef, undef, undef, undef, rfl, rfl, rkd0 wr⟩
        case hs =>
          rintro _ _ W9 ⟨b0, b1, b2, b3, b4, b5, b6, b7, b8, b9, b10, q56, q57, q58, q59, q60, q61, q62, q63, q64, q11, q12, rfl, rfl, j⟩ i hi
          obtain ⟨hun, o, ho, hall⟩ := mem_ready.1 hi
          clear hi
          have hlt : i < 11 := (Array.getElem?_eq_some_iff.1 ho).1
          match i, hlt with
          | 0, _ =>
            simp at ho hun
            subst ho; subst hun
            
            have HJ := Lib.hid j; clear j
            refine opStep_step rfl (fun K hK => ?_)
            have HK := Lib.hid hK; clear hK
            go_simp
            exact HK.out _ _ ⟨true, _, _, _, _, _, _, _, _, _, _, _, _, _, _, _, _, _, _, _, _, _, rfl, rfl, { HJ.out with m0 := fun _ => rfl }⟩
          | 1, _ =>
            simp at ho hun
            subst ho; subst hun
            
            have HJ := Lib.hid j; clear j
            refine opStep_step rfl (fun K hK => ?_)
            have HK := Lib.hid hK; clear hK
            go_simp
            exact HK.out _ _ ⟨_, true, _, _, _, _, _, _, _, _, _, _, _, _, _, _, _, _, _, _, _, _, rfl, rfl, { HJ.out with m1 := fun _ => rfl }⟩
          | 2, _ =>
            simp at ho hun
            subst ho; subst hun
            have e1 := hall ⟨1, .data⟩ (by simp) rfl
            simp at e1
            subst e1
            have x1 := j.m1 rfl
            subst x1
            obtain ⟨⟨y0, y1, y2, y3, y4⟩, -⟩ := five_cells (j.keep.heap HP7.out id)
            
            have HJ := Lib.hid j; clear j
            refine opStep_step rfl (fun K hK => ?_)
            have HK := Lib.hid hK; clear hK
            go_simp
            exact HK.out _ _ ⟨_, _, true, _, _, _, _, _, _, _, _, _, _, _, _, _, _, _, _, _, _, _, rfl, rfl, { HJ.out with m2 := fun _ => rfl }⟩
          | 3, _ =>
            simp at ho hun
            subst ho; subst hun
            have e0 := hall ⟨0, .data⟩ (by simp) rfl
            simp at e0
            subst e0
            have e2 := hall ⟨2, .data⟩ (by simp) rfl
            simp at e2
            subst e2
            have x0 := j.m0 rfl
            have x2 := j.m2 rfl
            subst x0; subst x2
            
            have HJ := Lib.hid j; clear j
            refine opStep_step rfl (fun K hK => ?_)
            have HK := Lib.hid hK; clear hK
            go_simp
            refine (HDA.out _ (HL7.out.keep HJ.out.keep (fun _ _ e => e))).mono ?_
            rintro e W6 ⟨d, rfl, k6, hd⟩
            exact HK.out _ _ ⟨_, _, _, true, _, _, _, _, _, _, _, _, _, _, _, _, _, _, _, _, _, _, rfl, rfl, { HJ.out.kept k6 with m3 := fun _ => hd, m9 := fun h => (by have := (HJ.out.m9 h).1; cases this) }⟩
          | 4, _ =>
            simp at ho hun
            subst ho; subst hun
            
            have HJ := Lib.hid j; clear j
            refine opStep_step rfl (fun K hK => ?_)
            have HK := Lib.hid hK; clear hK
            go_simp
            exact HK.out _ _ ⟨_, _, _, _, true, _, _, _, _, _, _, _, _, _, _, _, _, _, _, _, _, _, rfl, rfl, { HJ.out with m4 := fun _ => rfl }⟩
          | 5, _ =>
            simp at ho hun
            subst ho; subst hun
            have e4 := hall ⟨4, .data⟩ (by simp) rfl
            simp at e4
            subst e4
            have x4 := j.m4 rfl
            subst x4
            
            have HJ := Lib.hid j; clear j
            refine opStep_step rfl (fun K hK => ?_)
            have HK := Lib.hid hK; clear hK
            go_simp
            refine (HAS.out _ (HL7.out.keep HJ.out.keep (fun _ _ e => e))).mono ?_
            rintro e W6 ⟨u, rfl, k6, hu⟩
            exact HK.out _ _ ⟨_, _, _, _, _, true, _, _, _, _, _, _, _, _, _, _, _, _, _, _, _, _, rfl, rfl, { HJ.out.kept k6 with m5 := fun _ => hu }⟩
          | 6, _ =>
            simp at ho hun
            subst ho; subst hun
            
            have HJ := Lib.hid j; clear j
            refine opStep_step rfl (fun K hK => ?_)
            have HK := Lib.hid hK; clear hK
            go_simp
            exact HK.out _ _ ⟨_, _, _, _, _, _, true, _, _, _, _, _, _, _, _, _, _, _, _, _, _, _, rfl, rfl, { HJ.out with m6 := fun _ => rfl }⟩
          | 7, _ =>
            simp at ho hun
            subst ho; subst hun
            have e6 := hall ⟨6, .data⟩ (by simp) rfl
            simp at e6
            subst e6
            have x6 := j.m6 rfl
            subst x6
            obtain ⟨⟨y0, y1, y2, y3, y4⟩, -⟩ := five_cells (j.keep.heap HP7.out id)
            
            have HJ := Lib.hid j; clear j
            refine opStep_step rfl (fun K hK => ?_)
            have HK := Lib.hid hK; clear hK
            go_simp
            exact HK.out _ _ ⟨_, _, _, _, _, _, _, true, _, _, _, _, _, _, _, _, _, _, _, _, _, _, rfl, rfl, { HJ.out with m7 := fun _ => rfl }⟩
          | 8, _ =>
            simp at ho hun
            subst ho; subst hun
            have e5 := hall ⟨5, .data⟩ (by simp) rfl
            simp at e5
            subst e5
            have e7 := hall ⟨7, .data⟩ (by simp) rfl
            simp at e7
            subst e7
            have x7 := j.m7 rfl
            subst x7
            
            have HJ := Lib.hid j; clear j
            refine opStep_step rfl (fun K hK => ?_)
            have HK := Lib.hid hK; clear hK
            go_simp
            refine (HDR.out _ q61 (HJ.out.m5 rfl)).mono ?_
            rintro e W6 ⟨d, rfl, k6, hd⟩
            exact HK.out _ _ ⟨_, _, _, _, _, _, _, _, true, _, _, _, _, _, _, _, _, _, _, _, _, _, rfl, rfl, { HJ.out.kept k6 with m8 := fun _ => hd, m10 := fun h => (by have := (HJ.out.m10 h).1; cases this) }⟩
          | 9, _ =>
            simp at ho hun
            subst ho; subst hun
            have e3 := hall ⟨3, .data⟩ (by simp) rfl
            simp at e3
            subst e3
            
            have HJ := Lib.hid j; clear j
            refine opStep_step rfl (fun K hK => ?_)
            have HK := Lib.hid hK; clear hK
            go_simp
            exact HK.out _ _ ⟨_, _, _, _, _, _, _, _, _, true, _, _, _, _, _, _, _, _, _, _, _, _, rfl, rfl, { HJ.out with m9 := fun _ => ⟨rfl, rfl⟩ }⟩
          | 10, _ =>
            simp at ho hun
            subst ho; subst hun
            have e8 := hall ⟨8, .data⟩ (by simp) rfl
            simp at e8
            subst e8
            
            have HJ := Lib.hid j; clear j
            refine opStep_step rfl (fun K hK => ?_)
            have HK := Lib.hid hK; clear hK
            go_simp
            exact HK.out _ _ ⟨_, _, _, _, _, _, _, _, _, _, true, _, _, _, _, _, _, _, _, _, _, _, rfl, rfl, { HJ.out with m10 := fun _ => ⟨rfl, rfl⟩ }⟩
        case hd =>
          rintro _ _ W9 ⟨b0, b1, b2, b3, b4, b5, b6, b7, b8, b9, b10, q56, q57, q58, q59, q60, q61, q62, q63, q64, q11, q12, rfl, rfl, j⟩ hr
          have hn : ∀ i, i ∈ Region.ready .any _ _ → False := fun i hi => by rw [hr] at hi; cases hi
          have t0 : b0 = true := by cases b0; exact (hn 0 (mem_ready.2 ⟨rfl, _, rfl, by simp [Region.binds]⟩)).elim; rfl
          subst t0
          have t1 : b1 = true := by cases b1; exact (hn 1 (mem_ready.2 ⟨rfl, _, rfl, by simp [Region.binds]⟩)).elim; rfl
          subst t1
          have t2 : b2 = true := by cases b2; exact (hn 2 (mem_ready.2 ⟨rfl, _, rfl, by simp [Region.binds]⟩)).elim; rfl
          subst t2
          have t3 : b3 = true := by cases b3; exact (hn 3 (mem_ready.2 ⟨rfl, _, rfl, by simp [Region.binds]⟩)).elim; rfl
          subst t3
          have t4 : b4 = true := by cases b4; exact (hn 4 (mem_ready.2 ⟨rfl, _, rfl, by simp [Region.binds]⟩)).elim; rfl
          subst t4
          have t5 : b5 = true := by cases b5; exact (hn 5 (mem_ready.2 ⟨rfl, _, rfl, by simp [Region.binds]⟩)).elim; rfl
          subst t5
          have t6 : b6 = true := by cases b6; exact (hn 6 (mem_ready.2 ⟨rfl, _, rfl, by simp [Region.binds]⟩)).elim; rfl
          subst t6
          have t7 : b7 = true := by cases b7; exact (hn 7 (mem_ready.2 ⟨rfl, _, rfl, by simp [Region.binds]⟩)).elim; rfl
          subst t7
          have t8 : b8 = true := by cases b8; exact (hn 8 (mem_ready.2 ⟨rfl, _, rfl, by simp [Region.binds]⟩)).elim; rfl
          subst t8
          have t9 : b9 = true := by cases b9; exact (hn 9 (mem_ready.2 ⟨rfl, _, rfl, by simp [Region.binds]⟩)).elim; rfl
          subst t9
          have t10 : b10 = true := by cases b10; exact (hn 10 (mem_ready.2 ⟨rfl, _, rfl, by simp [Region.binds]⟩)).elim; rfl
          subst t10
          clear hn hr
          have d1 := j.m3 rfl
          have d2 := j.m8 rfl
          have e9 := (j.m9 rfl).2
          have e10 := (j.m10 rfl).2
          have x0 := j.m0 rfl
          have x1 := j.m1 rfl
          have x2 := j.m2 rfl
          have x4 := j.m4 rfl
          have x6 := j.m6 rfl
          have x7 := j.m7 rfl
          subst e9; subst e10; subst x0; subst x1; subst x2; subst x4; subst x6; subst x7
          obtain ⟨da, dc, rfl⟩ : ∃ a c, q11 = .slice a D.length c := let ⟨_, a, c, e, _⟩ := d1; ⟨a, c, e⟩
          obtain ⟨ea, ec, rfl⟩ : ∃ a c, q12 = .slice a D.length c := let ⟨_, a, c, e, _⟩ := d2; ⟨a, c, e⟩
          obtain ⟨M, hM⟩ : ∃ M, M = D.length := ⟨_, rfl⟩
          rw [← hM] at d1 d2 HDL ⊢
          have hMk := HDL.out
          have HS1 := Lib.hid d1; have HS2 := Lib.hid d2; have HMD := Lib.hid hM
          have HL9 := Lib.hid (fun (W : World) (K : Keep (fun _ => False) W9 W) => HL7.out.keep (j.keep.trans K) (fun _ _ e => e)); have HK9 := Lib.hid (HK7.out.trans j.keep)
          have HN9 := Lib.hid (fun (W : World) (K : Keep (fun _ => False) W9 W) => nats_ints (Sl.keep HNO.out (j.keep.trans K) (fun _ _ _ e => e)))
          have hpl := fun (W : World) (K : Keep (fun _ => False) W9 W) => load_box (P := Try.prog) (ty := 95) ((j.keep.trans K).heap HP7.out id) Try.underlying95 rfl (by rw [infoPolicy]; rfl)
          have HPL := Lib.hid hpl
          have HPC := Lib.hid (fun (W : World) (K : Keep (fun _ => False) W9 W) => five_cells ((j.keep.trans K).heap HP7.out id))
          clear j d1 d2 hM hpl HL7 HK7 HP7 HNO HDA HDR HAS
          go_wp2
          go_loopg [72] M (fun g v72 wi => ∃ j : Nat, j ≤ M ∧ g = M - j ∧ v72 = .int .i64 j ∧ Hid (Keep (fun _ => False) W9 wi))
          case atStart => exact ⟨0, Nat.zero_le _, rfl, rfl, Keep.refl _ _⟩
          case round =>
            obtain ⟨j, hj, hgj, rfl, HKJ⟩ := hrel
            by_cases hlt : j < M
            · obtain ⟨x, hx⟩ : ∃ x, D[j]? = some x := ⟨_, List.getElem?_eq_getElem (by rw [← HMD.out]; exact hlt)⟩
              obtain ⟨db, dd, cc, ev, _, _⟩ := Sl.base HS1.out (by omega)
              cases ev
              obtain ⟨eb, ed, cc2, ev, _, _⟩ := Sl.base HS2.out (by omega)
              cases ev
              have c1 : wr.cell? ⟨db, dd + j, none⟩ = some (.int .i64 x) := Sl.at1 (Sl.keep HS1.out HKJ.out (fun _ _ _ e => e)) (by rw [List.getElem?_map, hx]; rfl)
              have c2 : wr.cell? ⟨eb, ed + j, none⟩ = some (.int .i64 x) := Sl.at1 (Sl.keep HS2.out HKJ.out (fun _ _ _ e => e)) (by rw [List.getElem?_map, hx]; rfl)
              have i1 : (0 : Int) ≤ j := by omega
              have i2 : (j : Int) < M := by omega
              have HGJ := Lib.hid hgj; have HLT := Lib.hid hlt
              clear hgj hlt hx hj
              go_wp2_with fail
              refine wp_region_still_lit (by kernel_rfl) (by kernel_rfl) ?_
              try dsimp only
              iterate 9 (with_reducible refine still_at ?hw (fun K hK => ?_); (case hw => kernel_rfl); go_simp; with_reducible refine hK _ ?_; clear hK K)
              with_reducible refine wpStill_nil ?_
              go_wp2
              go_roundg (M - (j + 1))
              case measure => have := HGJ.out; have := HLT.out; omega
              case rel => exact ⟨j + 1, HLT.out, rfl, by go_num, HKJ.out.drew⟩
            · have HG1 := Lib.hid (fun (W : World) (K : Keep (fun _ => False) W9 W) => by
                have h := HGO.out W (HL9.out W K) 1000 (by decide)
                rw [List.take_of_length_le (by have := HGL.out; simp; omega)] at h
                exact h)
              obtain ⟨T, hT⟩ : ∃ T, T = X.take m7.toNat := ⟨_, rfl⟩
              have HG2 := Lib.hid (fun (W : World) (K : Keep (fun _ => False) W9 W) => by
                have h := HGO.out W (HL9.out W K) m7 (by have := HM.out; omega)
                rw [← hT] at h
                exact h)
              have hTl : (T.length : Int) = min m7 X.length := by rw [hT, List.length_take]; have := HM.out; omega
              obtain ⟨tl, htl⟩ : ∃ tl, tl = T.length := ⟨_, rfl⟩
              obtain ⟨xl, hxl⟩ : ∃ xl, xl = X.length := ⟨_, rfl⟩
              rw [← htl, ← hxl] at hTl
              rw [← htl] at HG2
              rw [← hxl]
              have HTL := Lib.hid hTl; have HXL := Lib.hid hxl
              have h7a := HM.out.1
              have h7b := HM.out.2
              have hnl : ¬ (j : Int) < M := by omega
              clear hT hTl htl hxl HGO HS1 HS2 hgj hj
              go_wp2_with (refine wpList_load_run rfl 95 (.tmp 4) rfl _ rfl _ (HPL.out _ HKJ.out) ?_)
              refine (HG1.out _ HKJ.out).mono ?_
              rintro e w10 ⟨r1, c1, rfl, hs1, k10⟩
              have HK10 := Lib.hid (HKJ.out.trans k10); have HR1 := Lib.hid (nats_ints hs1)
              clear k10 hs1 HKJ
              rw [HXL.out]
              go_wp2_with fail
              refine (sameInts_any HR1.out (HN9.out _ HK10.out)).mono ?_
              rintro e w11 ⟨rfl, k11⟩
              have HK11 := Lib.hid (HK10.out.trans k11)
              rw [decide_eq_true rfl]
              clear k11
              obtain ⟨⟨y0, y1, y2, y3, y4⟩, -⟩ := HPC.out _ HK11.out
              go_wp2_with fail
              refine (HG2.out _ HK11.out).mono ?_
              rintro e w12 ⟨r2, c2, rfl, hs2, k12⟩
              have HK12 := Lib.hid (HK9.out.trans (HK11.out.trans k12))
              clear k12 hs2
              rw [← HXL.out]
              go_wp2
              go_ret
              exact ⟨by rw [HTL.out]; simp, HK12.out⟩

set_option maxRecDepth 100000 in
set_option maxHeartbeats 4000000 in
theorem rkeeps_any {w : World} {v : Value} {L : List SnapR} (hL : SnapsAt w v L) (hOK : ∀ s ∈ L, SnapOK s) (p : PolR) (h1 : In64 p.last) (h2 : In64 p.days) (hday : In64 p.day) (hwi : In64 p.within) (most0 : Int) (_hm : -9223372036854775808 ≤ most0 ∧ most0 ≤ 9223372036854775807) :
    Calls Try.prog 11 #[v, .agg (polCells p), .int .i64 most0] w fun e w' => e = .returned (.bool true) ∧ Keep (fun _ => False) w w' := by
  by_cases h : L.length ≤ 30
  · exact rkeeps_short hL hOK h h1 h2 hday hwi most0
  · obtain ⟨va, vc, rfl⟩ : ∃ p k, v = .slice p L.length k := let ⟨_, p, k, e, _⟩ := hL; ⟨p, k, e⟩
    have h' : ¬ (L.length : Int) ≤ 30 := by omega
    clear h hL
    obtain ⟨pl, pd, pday, pw, ptag⟩ := p
    unfold polCells
    dsimp only
    go_enter Try.func11, Try.ntmps11
    go_wp2_with fail
    refine (alive19_any _).mono ?_
    rintro e w1 ⟨rfl, k1⟩
    have HK := Lib.hid (((Keep.refl (fun _ => False) w).alloc _).trans k1)
    clear k1
    go_wp2
    go_ret
    exact ⟨rfl, HK.out⟩
end Go.Proofs.Ytgnigkghkldcfaa
