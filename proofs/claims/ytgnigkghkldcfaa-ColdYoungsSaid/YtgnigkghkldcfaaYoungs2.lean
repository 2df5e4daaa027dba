/-
  coldstorelaw07.ColdYoungs: true.
-/
import Derived.Test.YtgnigkghkldcfaaYoungs1
import Derived.Test.YtgnigkghkldcfaaSameL
namespace Go.Proofs.Ytgnigkghkldcfaa
open Go.RowKit Go.Proofs Go.Lib

theorem one_byte (W : World) (b : UInt8) : BytesAt (W.alloc (.cells #[.int .u8 (b.toNat : Int)] 5)) (.slice (some ⟨W.heap.size, 0, none⟩) 1 1) [b] := by
  refine ⟨rfl, some ⟨W.heap.size, 0, none⟩, 1, rfl, Nat.le_refl _, (by decide), (fun e => by cases e), fun _ => ⟨W.heap.size, 0, rfl, fun j hj => ?_⟩⟩
  rw [cell_blk (alloc_new W _), Nat.zero_add]
  simp [bytesV]

set_option maxRecDepth 100000 in
set_option maxHeartbeats 8000000 in
theorem youngs_short {w : World} {v : Value} {l : List Int} (hv : Sl w 1 v l.length (l.map (.int .i64))) (hl : l.length ≤ 20) (least : Int) (force : Bool) :
    Calls Try.prog 9 #[v, .int .i64 least, .bool force] w fun e w' => e = .returned (.bool true) ∧ Keep (fun _ => False) w w' := by
  obtain ⟨va, vc, rfl⟩ : ∃ p k, v = .slice p l.length k := let ⟨_, p, k, e, _⟩ := hv; ⟨p, k, e⟩
  have HV := Lib.hid hv
  obtain ⟨N, hN⟩ : ∃ N, N = l.length := ⟨_, rfl⟩
  have HN := Lib.hid hN
  have hN20 : (N : Int) ≤ 20 := by omega
  rw [← hN]
  obtain ⟨L, eL, -, hL1, hL2⟩ := mask_in 8 (by decide) 255 (by decide) least
  simp only [Nat.reducePow] at hL2
  have hL : 0 ≤ L ∧ L ≤ 255 := by omega
  have HL := Lib.hid hL
  clear hv hL1 hL2 hN hl
  obtain ⟨hL1, hL2⟩ := hL
  go_enter Try.func9, Try.ntmps9
  go_wp2_with fail
  refine (alive7_any w).mono ?_
  rintro e w1 ⟨rfl, k1⟩
  have K1 := Lib.hid k1; clear k1
  go_wp2_with fail
  refine (cnew_any 1000 2 5 L _ (by decide) (by decide) (by decide) (by omega)).mono ?_
  rintro e W1 ⟨cb, sb, mb, S1, rfl, h1, q1, q2, q3, q4⟩
  have J1 := Lib.hid (show C7 w W1 cb sb mb (.pointer none) S1 (kc 1000 [] 0 [] 2 5 L 0) from ⟨h1, fun x e => Nat.le_trans K1.out.size (q2 x e), Nat.le_trans K1.out.size q3, Nat.le_trans K1.out.size q4, K1.out.trans q1⟩)
  clear h1 q1 q2 q3 q4 eL
  go_wp2
  go_loopg [9, 10, 30] N (fun g v9 v10 v30 wr => ∃ (i : Nat) (row : List (Bs × Bs)) (notes : List (Bs × (Int × Int))) (X : Int) (S : Nat → Prop), i ≤ N ∧ g = N - i ∧ v30 = .int .i64 i ∧ v9 = .int .i64 X ∧ v10 = .int .i64 row.length ∧ Hid (YI i row notes) ∧ 0 ≤ X ∧ X ≤ 255 * i ∧ Hid (C7 w wr cb sb mb (.pointer none) S (kc 1000 row (2 * i : Nat) notes 2 5 L X)))
  case atStart => exact ⟨0, [], [], 0, S1, Nat.zero_le _, rfl, rfl, rfl, rfl, ⟨fun _ h => (nomatch h), fun _ h => (nomatch h), List.Pairwise.nil, List.Pairwise.nil, Nat.le_refl _, Nat.le_refl _, rfl⟩, Int.le_refl _, by omega, J1⟩
  case round =>
    clear J1
    obtain ⟨i, row, notes, X, S, hi, hg, rfl, rfl, rfl, HY, hX0, hX1, J⟩ := hrel
    by_cases hlt : i < N
    · have hi20 : i < 20 := by omega
      obtain ⟨a, ha⟩ : ∃ a, l[i]? = some a := ⟨_, List.getElem?_eq_getElem (by rw [← HN.out]; exact hlt)⟩
      obtain ⟨M, eM, -, hM1', hM2'⟩ := mask_in 8 (by decide) 255 (by decide) a
      simp only [Nat.reducePow] at hM2'
      have hM : 0 ≤ M ∧ M ≤ 255 := by omega
      clear hM1' hM2'
      obtain ⟨hM1, hM2⟩ := hM
      obtain ⟨vb, vo, vc', ev, v1, v2⟩ := Sl.base HV.out (by rw [← HN.out]; omega)
      cases ev
      have hVw := Sl.keep HV.out J.out.keep (fun _ _ _ e => e)
      have cx : wr.cell? ⟨vb, vo + i, none⟩ = some (.int .i64 a) := Sl.at1 hVw (by simp [ha])
      rw [← HN.out] at v1
      unfold maxLen at v2
      have i1 : (0 : Int) ≤ i := by omega
      have i2 : (i : Int) < N := by omega
      have hrl : row.length ≤ i := HY.out.len
      have hnl : notes.length ≤ i := HY.out.lenn
      obtain ⟨ch, hch⟩ : ∃ c, c = UInt8.ofNat (97 + i) := ⟨_, rfl⟩
      have henc := yName_enc hi20
      rw [← hch] at henc
      obtain ⟨nm, hcat⟩ : ∃ nm, (⟨#[120]⟩ : ByteArray) ++ ⟨#[ch]⟩ = nm := ⟨_, rfl⟩
      have hnm : nm.data.toList = yName i := by rw [← hcat, hch]; rfl
      have hnms : nm.size ≤ maxLen := by
        show nm.data.size ≤ maxLen
        rw [← Array.length_toList, hnm]; show 2 ≤ maxLen; decide
      obtain ⟨Y, hYe⟩ : ∃ Y, max (300 - M + L - 300) 0 = Y := ⟨_, rfl⟩
      have hY1 : 0 ≤ Y ∧ Y ≤ 255 := by omega
      obtain ⟨hY1, hY2⟩ := hY1
      have HYE := Lib.hid hYe
      have HG := Lib.hid hg
      have HNM := Lib.hid hnm
      have hT : 0 ≤ 300 - M ∧ 300 - M ≤ 1125899906842624 := by omega
      have hT3 : 0 ≤ 300 - M ∧ 300 - M ≤ 300 := by omega
      have HT := Lib.hid hT; have HT3 := Lib.hid hT3
      have hXl : X ≤ 4000000000000000000 := by omega
      clear hg ha hVw hch hnm hT hT3
      go_wp2_with fail
      have ka := (Keep.refl (fun _ => False) wr).alloc (.cells #[.int .u8 1] 5)
      have Ja := Lib.hid (J.out.still ka)
      have B1 := Lib.hid (one_byte wr 1)
      clear ka henc hcat
      refine (cput_any Ja.out.cold (cs_left _ _ _) (cs_ops _ _ _ (by omega)) hXl (show notes.length ≤ 4096 by omega) nm hnms _ [1] B1.out (by decide) (300 - M) (by omega)).mono ?_
      rintro e W2 ⟨rfl, p2⟩
      obtain ⟨S2, j2, -, -⟩ := Ja.out.post p2
      rw [HNM.out] at j2 ⊢
      rw [show (kc 1000 row (2 * i : Nat) notes 2 5 L X).o.putCode (yName i) [1] = 0 from HY.out.code hi20 _ 1]
      rw [HY.out.cput hi20 HT.out] at j2
      have J2 := Lib.hid j2
      clear p2 j2
      go_wp2_with fail
      refine (cleft_any J2.out.cold nm hnms 300 (by decide)).mono ?_
      rintro e W3 ⟨rfl, p3⟩
      rw [HNM.out, y_left HT3.out HL.out, HYE.out]
      have J3 := Lib.hid (J2.out.still p3)
      clear p3
      have hrow : Hid ((putK (yName i) [1] row).length = row.length + 1) := by
        show _ = _
        have h1 := length_putK HY.out.rr (yName i) [1]
        rw [HY.out.lkr hi20] at h1
        simpa using h1
      have hlost : X ≤ 4000000000000000000 := hXl
      cases hfy : (!force && decide (0 < Y))
      · have hf : (!force && decide (0 < max (300 - M + L - 300) 0)) = false := by rw [HYE.out]; exact hfy
        have hd := y_drop_yes HY.out hi20 (k := (2 * i : Nat)) (b := 1) (X := X) HT3.out HL.out hf
        have HDR := Lib.hid hd
        have hcase : force = true ∨ (force = false ∧ ¬ 0 < Y) := by
          cases force
          · exact .inr ⟨rfl, by simpa using hfy⟩
          · exact .inl rfl
        clear hf hd hfy
        go_wp2_with fail
        refine (cdrop_any J3.out.cold (cs_left _ _ _) (cs_ops _ _ _ (by omega)) hlost nm hnms 300 (by decide) force).mono ?_
        rintro e W4 ⟨rfl, p4⟩
        obtain ⟨S4, j4, -, -⟩ := J3.out.post p4
        rw [HNM.out] at j4 ⊢
        rw [HDR.out.1]
        rw [HDR.out.2, HYE.out] at j4
        have J4 := Lib.hid j4
        clear p4 j4
        have hk2 : ((2 * i : Nat) : Int) + 2 = ((2 * (i + 1) : Nat) : Int) := by omega
        rw [hk2] at J4
        clear hk2
        rcases hcase with rfl | ⟨rfl, hy⟩
        all_goals go_wp2
        all_goals
          go_roundg (N - (i + 1))
          case measure => have := HG.out; omega
          case rel => exact ⟨i + 1, row, notes, X + Y, S4, by omega, rfl, by go_num, rfl, rfl, HY.out.up, by omega, by omega, J4⟩
      · have hfc : force = false ∧ 0 < Y := by
          rw [Bool.and_eq_true] at hfy
          exact ⟨by simpa using hfy.1, by simpa using hfy.2⟩
        have hf : (!force && decide (0 < max (300 - M + L - 300) 0)) = true := by rw [HYE.out]; exact hfy
        have hd := y_drop_no (i := i) (row := row) (notes := notes) (k := (2 * i : Nat)) (b := 1) (X := X) HT3.out HL.out hf
        have HDR := Lib.hid hd
        clear hf hd hfy
        obtain ⟨rfl, hy⟩ := hfc
        go_wp2_with fail
        refine (cdrop_any J3.out.cold (cs_left _ _ _) (cs_ops _ _ _ (by omega)) hlost nm hnms 300 (by decide) false).mono ?_
        rintro e W4 ⟨rfl, p4⟩
        obtain ⟨S4, j4, -, -⟩ := J3.out.post p4
        rw [HNM.out] at j4 ⊢
        rw [HDR.out.1]
        rw [HDR.out.2] at j4
        have hk2 : ((2 * i : Nat) : Int) + 2 = ((2 * (i + 1) : Nat) : Int) := by omega
        rw [hk2] at j4
        have J4 := Lib.hid j4
        clear p4 j4 hk2
        go_wp2
        go_roundg (N - (i + 1))
        case measure => have := HG.out; omega
        case rel => exact ⟨i + 1, _, _, X, S4, by omega, rfl, by go_num, rfl, by rw [hrow.out]; go_num, HY.out.put hi20 1 (300 - M, -1), by omega, by omega, J4⟩
    · have hc0 : wr.cell? ⟨cb, 0, none⟩ = some (.pointer (some ⟨sb, 0, none⟩)) := by rw [cell_blk J.out.cold.blk]; rfl
      have HK := Lib.hid J.out.keep
      go_wp2_with fail
      refine (lost_any J.out.cold).mono ?_
      rintro e W5 ⟨rfl, rfl⟩
      rw [show (kc 1000 row (2 * i : Nat) notes 2 5 L X).lost = X from rfl]
      go_wp2_with fail
      refine J.out.cold.st.len.mono ?_
      rintro e W6 ⟨rfl, rfl⟩
      rw [show ((kc 1000 row (2 * i : Nat) notes 2 5 L X).o.row.length : Int) = row.length from rfl]
      go_wp2
      go_ret
      exact ⟨rfl, HK.out⟩

set_option maxRecDepth 100000 in
theorem youngs_any {w : World} {v : Value} {l : List Int} (hv : Sl w 1 v l.length (l.map (.int .i64))) (_hb : ∀ x ∈ l, -9223372036854775808 ≤ x ∧ x ≤ 9223372036854775807) (least : Int) (_hl : -9223372036854775808 ≤ least ∧ least ≤ 9223372036854775807) (force : Bool) :
    Calls Try.prog 9 #[v, .int .i64 least, .bool force] w fun e w' => e = .returned (.bool true) ∧ Keep (fun _ => False) w w' := by
  by_cases h : l.length ≤ 20
  · exact youngs_short hv h least force
  · obtain ⟨va, vc, rfl⟩ : ∃ p k, v = .slice p l.length k := let ⟨_, p, k, e, _⟩ := hv; ⟨p, k, e⟩
    have h' : ¬ (l.length : Int) ≤ 20 := by omega
    clear h hv
    go_enter Try.func9, Try.ntmps9
    go_wp2_with fail
    refine (alive7_any w).mono ?_
    rintro e w1 ⟨rfl, k1⟩
    go_wp2
    go_ret
    exact ⟨rfl, k1⟩
end Go.Proofs.Ytgnigkghkldcfaa
