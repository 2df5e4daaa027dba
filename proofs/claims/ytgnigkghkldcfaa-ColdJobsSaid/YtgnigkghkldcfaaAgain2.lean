/-
  coldstorelaw07.ColdAgain: true.
-/
import Derived.Test.YtgnigkghkldcfaaAgain1
import Derived.Test.YtgnigkghkldcfaaMaskLaw
namespace Go.Proofs.Ytgnigkghkldcfaa
open Go.RowKit Go.Proofs Go.Lib

/-- a store armed -/
theorem ColdAt.arm {w w' : World} {cb sb mb : Nat} {f f' : Value} {S : Nat → Prop} {c : CS} (h : ColdAt w cb sb mb f S c) {o' : OS} {e : Ending} (hA : ArmSt sb f' S o' w e w') (hf : ∀ x, vblk f' = some x → x ≠ cb ∧ x ≠ mb) :
    ∃ S', e = .returned (.tuple #[]) ∧ ColdAt w' cb sb mb f' S' { c with o := o' } ∧ Keep (· = sb) w w' ∧ ∀ b, S' b → S b ∨ vblk f' = some b ∨ w.heap.size ≤ b := by
  obtain ⟨S', e1, h1, hk, hg⟩ := hA
  have hcs : cb ≠ sb := fun e => h.ncb (by rw [e]; exact h.st.self)
  have hms : mb ≠ sb := fun e => h.nmb (by rw [e]; exact h.st.self)
  refine ⟨S', e1, ⟨hk.heap h.blk hcs, h1, h.map.keep hk hms, fun e => ?_, fun e => ?_, ⟨h.ok.rising, h.ok.times, h.ok.jobs, h.ok.life, h.ok.least, h.ok.lost, h.ok.many⟩⟩, hk, hg⟩
  · rcases hg _ e with q | q | q
    · exact h.ncb q
    · exact (hf _ q).1 rfl
    · have := h.lt.1; omega
  · rcases hg _ e with q | q | q
    · exact h.nmb q
    · exact (hf _ q).2 rfl
    · have := h.lt.2; omega

theorem one_bool (W : World) (b : Bool) : Sl (W.alloc (.cells #[.bool b] 4)) 1 (.slice (some ⟨W.heap.size, 0, none⟩) 1 1) [b].length ([b].map .bool) := by
  refine ⟨rfl, some ⟨W.heap.size, 0, none⟩, 1, rfl, Nat.le_refl _, (by decide), (fun e => by cases e), fun _ => ⟨W.heap.size, 0, rfl, fun j hj => ?_⟩⟩
  rw [cell_blk (alloc_new W _), Nat.zero_add]
  simp

set_option maxRecDepth 100000 in
set_option maxHeartbeats 8000000 in
theorem again_short {w : World} {bv cv : Value} {b c : Bs} (hb : BytesAt w bv b) (hc : BytesAt w cv c) (hbl : b.length ≤ 100) (hcl : c.length ≤ 100) (least at' : Int) :
    Calls Try.prog 10 #[bv, cv, .int .i64 least, .int .i64 at'] w fun e w' => e = .returned (.bool true) ∧ Keep (fun _ => False) w w' := by
  obtain ⟨ba, bc, rfl⟩ : ∃ p k, bv = .slice p b.length k := let ⟨_, p, k, e, _⟩ := hb; ⟨p, k, e⟩
  obtain ⟨ca, cc, rfl⟩ : ∃ p k, cv = .slice p c.length k := let ⟨_, p, k, e, _⟩ := hc; ⟨p, k, e⟩
  have HB := Lib.hid hb; have HC := Lib.hid hc
  have hbl' : (b.length : Int) ≤ 100 := by omega
  have hcl' : (c.length : Int) ≤ 100 := by omega
  clear hb hc
  obtain ⟨L, eL, -, hL1, hL2⟩ := mask_in 8 (by decide) 255 (by decide) least
  obtain ⟨A, eA, -, hA1, hA2⟩ := mask_in 8 (by decide) 255 (by decide) at'
  simp only [Nat.reducePow] at hL2 hA2
  have hL : 0 ≤ L ∧ L ≤ 255 := by omega
  have hA : 0 ≤ A ∧ A ≤ 255 := by omega
  have HL := Lib.hid hL; have HA := Lib.hid hA
  clear hL1 hL2 hA1 hA2
  obtain ⟨hL1, hL2⟩ := hL; obtain ⟨hA1, hA2⟩ := hA
  have hwr : IntKind.i64.wrap (L - A) = L - A := by rw [IntKind.wrap_i64]; omega
  obtain ⟨X, hX⟩ : ∃ X, X = max (L - A) 0 := ⟨_, rfl⟩
  have HX := Lib.hid hX
  have hX1 : 0 ≤ X ∧ X ≤ 255 := by omega
  clear hX
  go_enter Try.func10, Try.ntmps10
  go_wp2_with fail
  refine (alive7_any w).mono ?_
  rintro e w1 ⟨rfl, k1⟩
  have K1 := Lib.hid k1; clear k1
  go_wp2_with fail
  refine (cnew_any 1000 2 50 L _ (by decide) (by decide) (by decide) (by omega)).mono ?_
  rintro e W1 ⟨cb, sb, mb, S1, rfl, h1, q1, q2, q3, q4⟩
  have J1 := Lib.hid (show C7 w W1 cb sb mb (.pointer none) S1 (kc 1000 [] 0 [] 2 50 L 0) from ⟨h1, fun x e => Nat.le_trans K1.out.size (q2 x e), Nat.le_trans K1.out.size q3, Nat.le_trans K1.out.size q4, K1.out.trans q1⟩)
  clear h1 q1 q2 q3 q4
  go_wp2_with fail
  refine (cput_any J1.out.cold (cs_left _ _ _) (cs_ops _ _ _ (by decide)) (show (0 : Int) ≤ 4000000000000000000 by decide) (by simp [kc]) ⟨#[120]⟩ (by decide) _ b (Sl.keep HB.out J1.out.keep (fun _ _ _ e => e)) (by omega) 0 (by decide)).mono ?_
  rintro e W2 ⟨rfl, p2⟩
  obtain ⟨S2, j2, -, -⟩ := J1.out.post p2
  rw [show (kc 1000 [] 0 [] 2 50 L 0).o.putCode (⟨#[120]⟩ : ByteArray).data.toList b = 0 from ag1 hbl]
  rw [show (kc 1000 [] 0 [] 2 50 L 0).put (⟨#[120]⟩ : ByteArray).data.toList b 0 = _ from ag2 hbl] at j2
  have J2 := Lib.hid j2
  clear p2 j2
  go_wp2_with fail
  refine (creq_any J2.out.cold (cs_left _ _ _) (cs_ops _ _ _ (by decide)) (by simp [kc]) ⟨#[120]⟩ (by decide) 0 (by decide) 0 (by decide)).mono ?_
  rintro e W3 ⟨rfl, p3⟩
  obtain ⟨S3, j3, -, -⟩ := J2.out.post p3
  rw [show (kc 1000 [([120], b)] 1 [([120], (0, -1))] 2 50 L 0).reqCode (⟨#[120]⟩ : ByteArray).data.toList 0 0 = 0 from ag4]
  rw [show (kc 1000 [([120], b)] 1 [([120], (0, -1))] 2 50 L 0).req (⟨#[120]⟩ : ByteArray).data.toList 0 0 = _ from ag5] at j3
  have J3 := Lib.hid j3
  clear p3 j3
  go_wp2_with fail
  refine (cstate_any J3.out.cold ⟨#[120]⟩ (by decide) 0 (by decide)).mono ?_
  rintro e W4 ⟨rfl, p4⟩
  rw [show (kc 1000 [([120], b)] 2 [([120], (0, 0))] 2 50 L 0).state (⟨#[120]⟩ : ByteArray).data.toList 0 = 2 from ag6]
  have J4 := Lib.hid (J3.out.still p4)
  clear p4
  go_wp2_with fail
  refine (cput_any J4.out.cold (cs_left _ _ _) (cs_ops _ _ _ (by decide)) (show (0 : Int) ≤ 4000000000000000000 by decide) (by simp [kc]) ⟨#[120]⟩ (by decide) _ c (Sl.keep HC.out J4.out.keep (fun _ _ _ e => e)) (by omega) A (by omega)).mono ?_
  rintro e W5 ⟨rfl, p5⟩
  obtain ⟨S5, j5, -, -⟩ := J4.out.post p5
  rw [show (kc 1000 [([120], b)] 2 [([120], (0, 0))] 2 50 L 0).o.putCode (⟨#[120]⟩ : ByteArray).data.toList c = 0 from ag7 hcl]
  rw [show (kc 1000 [([120], b)] 2 [([120], (0, 0))] 2 50 L 0).put (⟨#[120]⟩ : ByteArray).data.toList c A = _ from ag8 hcl HL.out HA.out, ← HX.out] at j5
  have J5 := Lib.hid j5
  clear p5 j5
  go_wp2_with fail
  refine (cstate_any J5.out.cold ⟨#[120]⟩ (by decide) A (by omega)).mono ?_
  rintro e W6 ⟨rfl, p6⟩
  rw [show (kc 1000 [([120], c)] 3 [([120], (A, -1))] 2 50 L X).state (⟨#[120]⟩ : ByteArray).data.toList A = 0 from ag9]
  have J6 := Lib.hid (J5.out.still p6)
  clear p6
  go_wp2_with fail
  refine (cleft_any J6.out.cold ⟨#[120]⟩ (by decide) A (by omega)).mono ?_
  rintro e W7 ⟨rfl, p7⟩
  rw [show (kc 1000 [([120], c)] 3 [([120], (A, -1))] 2 50 L X).left (⟨#[120]⟩ : ByteArray).data.toList A = L from ag10 HL.out HA.out]
  have J7 := Lib.hid (J6.out.still p7)
  clear p7
  go_wp2_with fail
  refine (lost_any J7.out.cold).mono ?_
  rintro e W8 ⟨rfl, rfl⟩
  rw [show (kc 1000 [([120], c)] 3 [([120], (A, -1))] 2 50 L X).lost = X from rfl]
  have c0 : W7.cell? ⟨cb, 0, none⟩ = some (.pointer (some ⟨sb, 0, none⟩)) := by rw [cell_blk J7.out.cold.blk]; rfl
  have hXe : (X == max (L - A) 0) = true := by rw [HX.out]; simp
  have hXn : (X != max (L - A) 0) = false := by rw [HX.out]; simp
  go_wp2_with fail
  clear hXe hXn
  refine J7.out.cold.st.len.mono ?_
  rintro e W9 ⟨rfl, rfl⟩
  rw [show ((kc 1000 [([120], c)] 3 [([120], (A, -1))] 2 50 L X).o.row.length : Int) = 1 from rfl]
  go_wp2_with fail
  refine J7.out.cold.st.size.mono ?_
  rintro e W10 ⟨rfl, rfl⟩
  rw [show ((sizeR (kc 1000 [([120], c)] 3 [([120], (A, -1))] 2 50 L X).o.row : Nat) : Int) = c.length from by simp [kc, cs, sizeR]]
  go_wp2_with fail
  have ka := (Keep.refl (fun _ => False) W7).alloc (.cells #[.bool true] 4)
  have J7a := Lib.hid (J7.out.still ka)
  have hsb := one_bool W7 true
  clear ka
  refine (arm_any J7a.out.cold.st (.pointer none) (-1) (.inl ⟨rfl, rfl⟩) _ [true] hsb (by decide)).mono ?_
  rintro e W11 h11
  obtain ⟨S11, rfl, j11, k11, g11⟩ := J7a.out.cold.arm h11 (fun x e => by cases e)
  have HS := Lib.hid j11.ncb
  have J11 := Lib.hid (show C7 w W11 cb sb mb (.pointer none) S11 (agF c A L X) from ⟨j11, fun x e => by
      rcases g11 x e with q | q | q
      · exact J7a.out.low x q
      · cases q
      · exact Nat.le_trans J7a.out.keep.size q, J7a.out.lcb, J7a.out.lmb, J7a.out.keep.trans' k11 (fun _ _ e => e) (fun i hi e => by have := J7a.out.low sb J7a.out.cold.st.self; omega)⟩)
  clear h11 j11 k11 g11 hsb c0 HS
  go_wp2_with fail
  refine (creq_any J11.out.cold (by show (-1 : Int) ≠ 0; decide) (by show (3 : Int) < 4611686018427387904; decide) (by simp [agF, kc]) ⟨#[120]⟩ (by decide) A (by omega) 3 (by decide)).mono ?_
  rintro e W12 ⟨rfl, p12⟩
  obtain ⟨S12, j12, -, -⟩ := J11.out.post p12
  rw [show (agF c A L X).reqCode (⟨#[120]⟩ : ByteArray).data.toList A 3 = 30 from ag12]
  rw [show (agF c A L X).req (⟨#[120]⟩ : ByteArray).data.toList A 3 = _ from ag13] at j12
  have J12 := Lib.hid j12
  clear p12 j12
  go_wp2_with fail
  refine (cpending_any J12.out.cold A (by omega)).mono ?_
  rintro e W13 ⟨rfl, p13⟩
  rw [ag14]
  have J13 := Lib.hid (J12.out.still p13)
  clear p13
  go_wp2_with fail
  refine (creq_any J13.out.cold (cs_left _ _ _) (cs_ops _ _ _ (by decide)) (by simp [kc]) ⟨#[120]⟩ (by decide) A (by omega) 3 (by decide)).mono ?_
  rintro e W14 ⟨rfl, p14⟩
  obtain ⟨S14, j14, -, -⟩ := J13.out.post p14
  rw [show (kc 1000 [([120], c)] 4 [([120], (A, -1))] 2 50 L X).reqCode (⟨#[120]⟩ : ByteArray).data.toList A 3 = 0 from ag16]
  rw [show (kc 1000 [([120], c)] 4 [([120], (A, -1))] 2 50 L X).req (⟨#[120]⟩ : ByteArray).data.toList A 3 = _ from ag17 HA.out] at j14
  have J14 := Lib.hid j14
  clear p14 j14
  go_wp2_with fail
  refine (cget_any J14.out.cold (cs_left _ _ _) (cs_ops _ _ _ (by decide)) ⟨#[120]⟩ (by decide) (A + 3) (by omega)).mono ?_
  rintro e W15 h15
  obtain ⟨v15, rfl, j15, hv15, -, va15, vn15, vk15, rfl⟩ := J14.out.get h15
  rw [show (kc 1000 [([120], c)] 5 [([120], (A, A + 3))] 2 50 L X).getCode (⟨#[120]⟩ : ByteArray).data.toList (A + 3) = 0 from ag19 HA.out]
  rw [show (kc 1000 [([120], c)] 5 [([120], (A, A + 3))] 2 50 L X).getBytes (⟨#[120]⟩ : ByteArray).data.toList (A + 3) = c from ag20 HA.out] at hv15
  have J15 := Lib.hid (show C7 w W15 cb sb mb (.pointer none) S14 (kc 1000 [([120], c)] 6 [([120], (A, A + 3))] 2 50 L X) from j15)
  have HV15 := Lib.hid hv15
  clear h15 j15 hv15
  go_wp2_with fail
  refine (cpending_any J15.out.cold A (by omega)).mono ?_
  rintro e W16 ⟨rfl, p16⟩
  rw [ag21 HA.out]
  have J16 := Lib.hid (J15.out.still p16)
  have HV16 := Lib.hid (show BytesAt W16 (.slice va15 vn15 vk15) c from Sl.keep HV15.out p16 (fun _ _ _ e => e))
  clear p16
  go_wp2_with fail
  refine (same_any HV16.out (Sl.keep HC.out J16.out.keep (fun _ _ _ e => e))).mono ?_
  rintro e W17 ⟨rfl, rfl⟩
  rw [show (c == c) = true from by simp]
  have HK := Lib.hid J16.out.keep
  go_wp2
  go_ret
  exact ⟨rfl, HK.out⟩

set_option maxRecDepth 100000 in
theorem again_any {w : World} {bv cv : Value} {b c : Bs} (hb : BytesAt w bv b) (hc : BytesAt w cv c) (least : Int) (_hl : -9223372036854775808 ≤ least ∧ least ≤ 9223372036854775807) (at' : Int) (_ha : -9223372036854775808 ≤ at' ∧ at' ≤ 9223372036854775807) :
    Calls Try.prog 10 #[bv, cv, .int .i64 least, .int .i64 at'] w fun e w' => e = .returned (.bool true) ∧ Keep (fun _ => False) w w' := by
  by_cases h : b.length ≤ 100 ∧ c.length ≤ 100
  · exact again_short hb hc h.1 h.2 least at'
  · obtain ⟨ba, bc, rfl⟩ : ∃ p k, bv = .slice p b.length k := let ⟨_, p, k, e, _⟩ := hb; ⟨p, k, e⟩
    obtain ⟨ca, cc, rfl⟩ : ∃ p k, cv = .slice p c.length k := let ⟨_, p, k, e, _⟩ := hc; ⟨p, k, e⟩
    have h' : ¬ (b.length : Int) ≤ 100 ∨ ((b.length : Int) ≤ 100 ∧ ¬ (c.length : Int) ≤ 100) := by omega
    clear h hb hc
    rcases h' with h | ⟨h0, h⟩
    all_goals go_enter Try.func10, Try.ntmps10
    all_goals go_wp2_with fail
    all_goals refine (alive7_any w).mono ?_
    all_goals rintro e w1 ⟨rfl, k1⟩
    all_goals go_wp2
    all_goals go_ret
    all_goals exact ⟨rfl, k1⟩
end Go.Proofs.Ytgnigkghkldcfaa
