/-
  seal.Unseal.
-/
import Derived.Test.YtlajejbglpggeaaSeal1
import Derived.Test.YtlajejbglpggeaaConv
import Derived.Test.YtlajejbglpggeaaDraw
namespace Go.Proofs.Ytlajejbglpggeaa
open Go.RowKit Go.Proofs Go.Lib

/-- what is unsealed, the error's number -/
def unsealB (kind : UInt8) (b : Bs) : Bs × Int :=
  if b.length < 5 then ([], 20) else
    match b with
    | [] => ([], 20)
    | x :: r => if sealB x (r.take (b.length - 5)) ≠ b then ([], 36) else if x ≠ kind then ([], 21) else (r.take (b.length - 5), 0)

structure UJ (w : World) (X : Bs) (b5 : Bool) (q21 : Value) (W : World) : Prop where
  keep : Keep (fun _ => False) w W
  m5 : b5 = true → BytesAt W q21 X
theorem UJ.made {w : World} {X : Bs} {b5 : Bool} {q21 v : Value} {W W' : World} (j : UJ w X b5 q21 W) (h : W'.ownsRow W.heap.size 5 1 v X.length (bytesV X)) (hb : Below W.heap.size W W') : UJ w X true v W' :=
  ⟨j.keep.trans (Keep.of_below hb _), fun _ => (Sl.of_owns h).1⟩

/-- what Unseal comes to -/
def UnsealPost (kind : UInt8) (l : Bs) (w : World) (e : Ending) (w' : World) : Prop :=
  ∃ v, e = .returned (.tuple #[v, .int .i64 (unsealB kind l).2]) ∧ BytesAt w' v (unsealB kind l).1 ∧ Keep (fun _ => False) w w'

theorem unseal_short {w : World} (kind : UInt8) {v : Value} {l : Bs} (hb : BytesAt w v l) (h5 : l.length < 5) : Calls Try.prog 57 #[.int .u8 (kind.toNat : Int), v] w (UnsealPost kind l w) := by
  obtain ⟨va, vc, rfl⟩ : ∃ a c, v = .slice a l.length c := let ⟨_, a, c, e, _⟩ := hb; ⟨a, c, e⟩
  have hu : unsealB kind l = ([], 20) := by unfold unsealB; rw [if_pos h5]
  unfold UnsealPost
  rw [hu]
  obtain ⟨n, hn⟩ : ∃ n, n = l.length := ⟨_, rfl⟩
  rw [← hn] at h5 ⊢
  have h5' : (n : Int) < 5 := by omega
  clear hb hn hu
  go_enter Try.func57, Try.ntmps57
  go_wp2
  go_ret2
  exact ⟨_, rfl, Sl.nil _ _, Keep.refl _ _⟩

set_option maxRecDepth 100000 in
set_option maxHeartbeats 2000000 in
theorem unseal_long {w : World} (kind : UInt8) {v : Value} {l : Bs} (hb : BytesAt w v l) (h5 : 5 ≤ l.length) (hl : l.length ≤ 10000000000000) : Calls Try.prog 57 #[.int .u8 (kind.toNat : Int), v] w (UnsealPost kind l w) := by
  obtain ⟨b, o, vc, rfl, v1, v2⟩ := Sl.base hb (by omega)
  obtain ⟨x, r, hxr⟩ : ∃ x r, l = x :: r := by
    cases l with
    | nil => simp at h5
    | cons x r => exact ⟨x, r, rfl⟩
  obtain ⟨I, hI⟩ : ∃ I, I = r.take (l.length - 5) := ⟨_, rfl⟩
  have hu : unsealB kind l = if sealB x I ≠ l then ([], 36) else if x ≠ kind then ([], 21) else (I, 0) := by
    unfold unsealB
    rw [if_neg (by omega), hI]
    subst hxr
    rfl
  have hIl : I.length = l.length - 5 := by rw [hI, List.length_take]; have : l.length = r.length + 1 := by rw [hxr]; rfl
                                           omega
  have HC0 := Lib.hid (fun W (K : Keep (fun _ => False) w W) => (show W.cell? ⟨b, o, none⟩ = some (.int .u8 (x.toNat : Int)) from bytesAt_at (i := 0) (Sl.keep hb K (fun _ _ _ e => e)) (by rw [hxr]; rfl)))
  have HBL := Lib.hid (fun W (K : Keep (fun _ => False) w W) => (show BytesAt W (.slice (some ⟨b, o, none⟩) l.length vc) l from Sl.keep hb K (fun _ _ _ e => e)))
  have hbi : BytesAt w (.slice (some ⟨b, o + 1, none⟩) (l.length - 4 - 1) (vc - 1)) I := by
    have h1 := BytesAt.head hb (m := l.length - 4) (c' := vc) (by omega) (by omega) (Nat.le_refl _) (fun e => by cases e)
    have h2 := BytesAt.tail (m := 1) h1 (by rw [List.length_take]; omega)
    have e : (l.take (l.length - 4)).drop 1 = I := by
      rw [hI, List.drop_take, hxr]
      rfl
    rw [e] at h2
    exact h2
  have HBI := Lib.hid (fun W (K : Keep (fun _ => False) w W) => (show BytesAt W (.slice (some ⟨b, o + 1, none⟩) (l.length - 4 - 1) (vc - 1)) I from Sl.keep hbi K (fun _ _ _ e => e)))
  have HSE := Lib.hid (fun W (K : Keep (fun _ => False) w W) => seal_any x (HBI.out W K) (by omega))
  obtain ⟨n, hn⟩ : ∃ n, n = l.length := ⟨_, rfl⟩
  rw [← hn] at HBL HBI HSE h5 hl v1 ⊢
  have HN := Lib.hid hn; have HU := Lib.hid hu; have HX := Lib.hid hxr
  unfold maxLen at v2
  have h5' : (5 : Int) ≤ n := by omega
  have hn4 : (n : Int) - 4 = ((n - 4 : Nat) : Int) := by omega
  have hq1 : (1 : Int) ≤ ((n - 4 : Nat) : Int) := by omega
  have hq2 : ¬ vc = 1 := by omega
  have hq3 : 0 < n := by omega
  clear hb hI hu hIl hbi hn hxr
  go_enter Try.func57, Try.ntmps57
  go_wp2_with fail
  refine region_inv' (fun a0 listed a W' => ∃ (b0 b1 b2 b3 b4 b5 b6 b7 b8 b9 b10 : Bool) (q16 q17 q18 q19 q20 q21 q22 q23 q24 q25 q15 : Value), listed = #[b0, b1, b2, b3, b4, b5, b6, b7, b8, b9, b10] ∧ a = { a0 with tmps := (((((((((((a0.tmps.setIfInBounds 15 q15).setIfInBounds 16 q16).setIfInBounds 17 q17).setIfInBounds 18 q18).setIfInBounds 19 q19).setIfInBounds 20 q20).setIfInBounds 21 q21).setIfInBounds 22 q22).setIfInBounds 23 q23).setIfInBounds 24 q24).setIfInBounds 25 q25) } ∧ (b0 = true → q16 = (.slice (some ⟨b, o, none⟩) n vc)) ∧ (b1 = true → q17 = (.pointer (some ⟨b, o, none⟩))) ∧ (b2 = true → q18 = (.int .u8 (x.toNat : Int))) ∧ (b3 = true → q19 = (.slice (some ⟨b, o, none⟩) (n - 4) vc)) ∧ (b4 = true → q20 = (.slice (some ⟨b, o + 1, none⟩) (n - 4 - 1) (vc - 1))) ∧ (b6 = true → q22 = (strV (sealB x I))) ∧ (b7 = true → q23 = (.slice (some ⟨b, o, none⟩) n vc)) ∧ (b8 = true → q24 = (strV l)) ∧ (b9 = true → q25 = (.bool (!(sealB x I == l)))) ∧ (b10 = true → q15 = (.bool (!(sealB x I == l)))) ∧ UJ w (sealB x I) b5 q21 W') (by kernel_rfl) ?h0 ?hs ?hd
  case h0 =>
    exact ⟨false, false, false, false, false, false, false, false, false, false, false, undef, undef, undef, undef, undef, undef, undef, undef, undef, undef, undef, rfl, (by first | (simp; done) | rfl), (fun e => by cases e), (fun e => by cases e), (fun e => by cases e), (fun e => by cases e), (fun e => by cases e), (fun e => by cases e), (fun e => by cases e), (fun e => by cases e), (fun e => by cases e), (fun e => by cases e), ⟨(Keep.refl _ _).drew, fun e => by cases e⟩⟩
  case hs =>
    rintro _ _ W5 ⟨b0, b1, b2, b3, b4, b5, b6, b7, b8, b9, b10, q16, q17, q18, q19, q20, q21, q22, q23, q24, q25, q15, rfl, rfl, m0, m1, m2, m3, m4, m6, m7, m8, m9, m10, j⟩ i hi
    obtain ⟨hun, o, ho, hall⟩ := mem_ready.1 hi
    clear hi
    have hlt : i < 11 := (Array.getElem?_eq_some_iff.1 ho).1
    simp only [List.setIfInBounds_toArray, List.set_cons_zero, List.set_cons_succ]
    match i, hlt with
    | 0, _ =>
      simp at ho hun
      subst ho; subst hun
      have M0 := Lib.hid m0; have M1 := Lib.hid m1; have M2 := Lib.hid m2; have M3 := Lib.hid m3; have M4 := Lib.hid m4; have M6 := Lib.hid m6; have M7 := Lib.hid m7; have M8 := Lib.hid m8; have M9 := Lib.hid m9; have M10 := Lib.hid m10; clear m0 m1 m2 m3 m4 m6 m7 m8 m9 m10
      have HJ := Lib.hid j; clear j
      refine opStep_step rfl (fun K hK => ?_)
      have HK := Lib.hid hK; clear hK
      go_simp
      exact HK.out _ _ ⟨true, _, _, _, _, _, _, _, _, _, _, _, _, _, _, _, _, _, _, _, _, _, rfl, rfl, fun _ => rfl, M1.out, M2.out, M3.out, M4.out, M6.out, M7.out, M8.out, M9.out, M10.out, HJ.out⟩
    | 1, _ =>
      simp at ho hun
      subst ho; subst hun
      have e0 := hall ⟨0, .data⟩ (by simp) rfl
      simp at e0
      subst e0
      have n0 := m0 rfl
      subst n0
      have M0 := Lib.hid m0; have M1 := Lib.hid m1; have M2 := Lib.hid m2; have M3 := Lib.hid m3; have M4 := Lib.hid m4; have M6 := Lib.hid m6; have M7 := Lib.hid m7; have M8 := Lib.hid m8; have M9 := Lib.hid m9; have M10 := Lib.hid m10; clear m0 m1 m2 m3 m4 m6 m7 m8 m9 m10
      have HJ := Lib.hid j; clear j
      refine opStep_step rfl (fun K hK => ?_)
      have HK := Lib.hid hK; clear hK
      go_simp
      exact HK.out _ _ ⟨_, true, _, _, _, _, _, _, _, _, _, _, _, _, _, _, _, _, _, _, _, _, rfl, rfl, M0.out, fun _ => rfl, M2.out, M3.out, M4.out, M6.out, M7.out, M8.out, M9.out, M10.out, HJ.out⟩
    | 2, _ =>
      simp at ho hun
      subst ho; subst hun
      have e1 := hall ⟨1, .data⟩ (by simp) rfl
      simp at e1
      subst e1
      have n1 := m1 rfl
      subst n1
      have y0 := HC0.out _ j.keep
      have M0 := Lib.hid m0; have M1 := Lib.hid m1; have M2 := Lib.hid m2; have M3 := Lib.hid m3; have M4 := Lib.hid m4; have M6 := Lib.hid m6; have M7 := Lib.hid m7; have M8 := Lib.hid m8; have M9 := Lib.hid m9; have M10 := Lib.hid m10; clear m0 m1 m2 m3 m4 m6 m7 m8 m9 m10
      have HJ := Lib.hid j; clear j
      refine opStep_step rfl (fun K hK => ?_)
      have HK := Lib.hid hK; clear hK
      go_simp
      exact HK.out _ _ ⟨_, _, true, _, _, _, _, _, _, _, _, _, _, _, _, _, _, _, _, _, _, _, rfl, rfl, M0.out, M1.out, fun _ => rfl, M3.out, M4.out, M6.out, M7.out, M8.out, M9.out, M10.out, HJ.out⟩
    | 3, _ =>
      simp at ho hun
      subst ho; subst hun
      have M0 := Lib.hid m0; have M1 := Lib.hid m1; have M2 := Lib.hid m2; have M3 := Lib.hid m3; have M4 := Lib.hid m4; have M6 := Lib.hid m6; have M7 := Lib.hid m7; have M8 := Lib.hid m8; have M9 := Lib.hid m9; have M10 := Lib.hid m10; clear m0 m1 m2 m3 m4 m6 m7 m8 m9 m10
      have HJ := Lib.hid j; clear j
      refine opStep_step rfl (fun K hK => ?_)
      have HK := Lib.hid hK; clear hK
      go_simp
      exact HK.out _ _ ⟨_, _, _, true, _, _, _, _, _, _, _, _, _, _, _, _, _, _, _, _, _, _, rfl, rfl, M0.out, M1.out, M2.out, fun _ => rfl, M4.out, M6.out, M7.out, M8.out, M9.out, M10.out, HJ.out⟩
    | 4, _ =>
      simp at ho hun
      subst ho; subst hun
      have e3 := hall ⟨3, .data⟩ (by simp) rfl
      simp at e3
      subst e3
      have n3 := m3 rfl
      subst n3
      have M0 := Lib.hid m0; have M1 := Lib.hid m1; have M2 := Lib.hid m2; have M3 := Lib.hid m3; have M4 := Lib.hid m4; have M6 := Lib.hid m6; have M7 := Lib.hid m7; have M8 := Lib.hid m8; have M9 := Lib.hid m9; have M10 := Lib.hid m10; clear m0 m1 m2 m3 m4 m6 m7 m8 m9 m10
      have HJ := Lib.hid j; clear j
      refine opStep_step rfl (fun K hK => ?_)
      have HK := Lib.hid hK; clear hK
      go_simp
      exact HK.out _ _ ⟨_, _, _, _, true, _, _, _, _, _, _, _, _, _, _, _, _, _, _, _, _, _, rfl, rfl, M0.out, M1.out, M2.out, M3.out, fun _ => rfl, M6.out, M7.out, M8.out, M9.out, M10.out, HJ.out⟩
    | 5, _ =>
      simp at ho hun
      subst ho; subst hun
      have e2 := hall ⟨2, .data⟩ (by simp) rfl
      simp at e2
      subst e2
      have n2 := m2 rfl
      subst n2
      have e4 := hall ⟨4, .data⟩ (by simp) rfl
      simp at e4
      subst e4
      have n4 := m4 rfl
      subst n4
      have M0 := Lib.hid m0; have M1 := Lib.hid m1; have M2 := Lib.hid m2; have M3 := Lib.hid m3; have M4 := Lib.hid m4; have M6 := Lib.hid m6; have M7 := Lib.hid m7; have M8 := Lib.hid m8; have M9 := Lib.hid m9; have M10 := Lib.hid m10; clear m0 m1 m2 m3 m4 m6 m7 m8 m9 m10
      have HJ := Lib.hid j; clear j
      refine opStep_step rfl (fun K hK => ?_)
      have HK := Lib.hid hK; clear hK
      go_simp
      refine (HSE.out _ HJ.out.keep).mono ?_
      rintro e W6 ⟨v6, rfl, ho6, hb6⟩
      exact HK.out _ _ ⟨_, _, _, _, _, true, _, _, _, _, _, _, _, _, _, _, _, _, _, _, _, _, rfl, rfl, M0.out, M1.out, M2.out, M3.out, M4.out, M6.out, M7.out, M8.out, M9.out, M10.out, HJ.out.made ho6 hb6⟩
    | 6, _ =>
      simp at ho hun
      subst ho; subst hun
      have e5 := hall ⟨5, .data⟩ (by simp) rfl
      simp at e5
      subst e5
      have y1 := conv_str (j.m5 rfl)
      have M0 := Lib.hid m0; have M1 := Lib.hid m1; have M2 := Lib.hid m2; have M3 := Lib.hid m3; have M4 := Lib.hid m4; have M6 := Lib.hid m6; have M7 := Lib.hid m7; have M8 := Lib.hid m8; have M9 := Lib.hid m9; have M10 := Lib.hid m10; clear m0 m1 m2 m3 m4 m6 m7 m8 m9 m10
      have HJ := Lib.hid j; clear j
      refine opStep_step rfl (fun K hK => ?_)
      have HK := Lib.hid hK; clear hK
      go_simp
      exact HK.out _ _ ⟨_, _, _, _, _, _, true, _, _, _, _, _, _, _, _, _, _, _, _, _, _, _, rfl, rfl, M0.out, M1.out, M2.out, M3.out, M4.out, fun _ => rfl, M7.out, M8.out, M9.out, M10.out, HJ.out⟩
    | 7, _ =>
      simp at ho hun
      subst ho; subst hun
      have M0 := Lib.hid m0; have M1 := Lib.hid m1; have M2 := Lib.hid m2; have M3 := Lib.hid m3; have M4 := Lib.hid m4; have M6 := Lib.hid m6; have M7 := Lib.hid m7; have M8 := Lib.hid m8; have M9 := Lib.hid m9; have M10 := Lib.hid m10; clear m0 m1 m2 m3 m4 m6 m7 m8 m9 m10
      have HJ := Lib.hid j; clear j
      refine opStep_step rfl (fun K hK => ?_)
      have HK := Lib.hid hK; clear hK
      go_simp
      exact HK.out _ _ ⟨_, _, _, _, _, _, _, true, _, _, _, _, _, _, _, _, _, _, _, _, _, _, rfl, rfl, M0.out, M1.out, M2.out, M3.out, M4.out, M6.out, fun _ => rfl, M8.out, M9.out, M10.out, HJ.out⟩
    | 8, _ =>
      simp at ho hun
      subst ho; subst hun
      have e7 := hall ⟨7, .data⟩ (by simp) rfl
      simp at e7
      subst e7
      have n7 := m7 rfl
      subst n7
      have y1 := conv_str (HBL.out _ j.keep)
      have M0 := Lib.hid m0; have M1 := Lib.hid m1; have M2 := Lib.hid m2; have M3 := Lib.hid m3; have M4 := Lib.hid m4; have M6 := Lib.hid m6; have M7 := Lib.hid m7; have M8 := Lib.hid m8; have M9 := Lib.hid m9; have M10 := Lib.hid m10; clear m0 m1 m2 m3 m4 m6 m7 m8 m9 m10
      have HJ := Lib.hid j; clear j
      refine opStep_step rfl (fun K hK => ?_)
      have HK := Lib.hid hK; clear hK
      go_simp
      exact HK.out _ _ ⟨_, _, _, _, _, _, _, _, true, _, _, _, _, _, _, _, _, _, _, _, _, _, rfl, rfl, M0.out, M1.out, M2.out, M3.out, M4.out, M6.out, M7.out, fun _ => rfl, M9.out, M10.out, HJ.out⟩
    | 9, _ =>
      simp at ho hun
      subst ho; subst hun
      have e6 := hall ⟨6, .data⟩ (by simp) rfl
      simp at e6
      subst e6
      have n6 := m6 rfl
      subst n6
      have e8 := hall ⟨8, .data⟩ (by simp) rfl
      simp at e8
      subst e8
      have n8 := m8 rfl
      subst n8
      have M0 := Lib.hid m0; have M1 := Lib.hid m1; have M2 := Lib.hid m2; have M3 := Lib.hid m3; have M4 := Lib.hid m4; have M6 := Lib.hid m6; have M7 := Lib.hid m7; have M8 := Lib.hid m8; have M9 := Lib.hid m9; have M10 := Lib.hid m10; clear m0 m1 m2 m3 m4 m6 m7 m8 m9 m10
      have HJ := Lib.hid j; clear j
      refine opStep_step rfl (fun K hK => ?_)
      have HK := Lib.hid hK; clear hK
      go_simp
      exact HK.out _ _ ⟨_, _, _, _, _, _, _, _, _, true, _, _, _, _, _, _, _, _, _, _, _, _, rfl, rfl, M0.out, M1.out, M2.out, M3.out, M4.out, M6.out, M7.out, M8.out, fun _ => rfl, M10.out, HJ.out⟩
    | 10, _ =>
      simp at ho hun
      subst ho; subst hun
      have e9 := hall ⟨9, .data⟩ (by simp) rfl
      simp at e9
      subst e9
      have n9 := m9 rfl
      subst n9
      have M0 := Lib.hid m0; have M1 := Lib.hid m1; have M2 := Lib.hid m2; have M3 := Lib.hid m3; have M4 := Lib.hid m4; have M6 := Lib.hid m6; have M7 := Lib.hid m7; have M8 := Lib.hid m8; have M9 := Lib.hid m9; have M10 := Lib.hid m10; clear m0 m1 m2 m3 m4 m6 m7 m8 m9 m10
      have HJ := Lib.hid j; clear j
      refine opStep_step rfl (fun K hK => ?_)
      have HK := Lib.hid hK; clear hK
      go_simp
      exact HK.out _ _ ⟨_, _, _, _, _, _, _, _, _, _, true, _, _, _, _, _, _, _, _, _, _, _, rfl, rfl, M0.out, M1.out, M2.out, M3.out, M4.out, M6.out, M7.out, M8.out, M9.out, fun _ => rfl, HJ.out⟩
  case hd =>
    rintro _ _ W5 ⟨b0, b1, b2, b3, b4, b5, b6, b7, b8, b9, b10, q16, q17, q18, q19, q20, q21, q22, q23, q24, q25, q15, rfl, rfl, m0, m1, m2, m3, m4, m6, m7, m8, m9, m10, j⟩ hr
    have hn : ∀ i, i ∈ Region.ready .any _ _ → False := fun i hi => by rw [hr] at hi; cases hi
    have t0 : b0 = true := by cases b0; exact (hn 0 (mem_ready.2 ⟨rfl, _, rfl, by simp [Region.binds]⟩)).elim; rfl
    subst t0
    have t1 : b1 = true := by cases b1; exact (hn 1 (mem_ready.2 ⟨rfl, _, rfl, by simp [Region.binds]⟩)).elim; rfl
    subst t1
    have t2 : b2 = true := by cases b2; exact (hn 2 (mem_ready.2 ⟨rfl, _, rfl, by simp [Region.binds]⟩)).elim; rfl
    subst t2
    have t3 : b3 = true := by cases b3; exact (hn 3 (mem_ready.2 ⟨rfl, _, rfl, by simp [Region.binds]⟩)).elim; rfl
    subst t3
    have t4 : b4 = true := by cases b4; exact (hn 4 (mem_ready.2 ⟨rfl, _, rfl, by simp [Region.binds]⟩)).elim; rfl
    subst t4
    have t5 : b5 = true := by cases b5; exact (hn 5 (mem_ready.2 ⟨rfl, _, rfl, by simp [Region.binds]⟩)).elim; rfl
    subst t5
    have t6 : b6 = true := by cases b6; exact (hn 6 (mem_ready.2 ⟨rfl, _, rfl, by simp [Region.binds]⟩)).elim; rfl
    subst t6
    have t7 : b7 = true := by cases b7; exact (hn 7 (mem_ready.2 ⟨rfl, _, rfl, by simp [Region.binds]⟩)).elim; rfl
    subst t7
    have t8 : b8 = true := by cases b8; exact (hn 8 (mem_ready.2 ⟨rfl, _, rfl, by simp [Region.binds]⟩)).elim; rfl
    subst t8
    have t9 : b9 = true := by cases b9; exact (hn 9 (mem_ready.2 ⟨rfl, _, rfl, by simp [Region.binds]⟩)).elim; rfl
    subst t9
    have t10 : b10 = true := by cases b10; exact (hn 10 (mem_ready.2 ⟨rfl, _, rfl, by simp [Region.binds]⟩)).elim; rfl
    subst t10
    have n0 := m0 rfl
    subst n0
    have n1 := m1 rfl
    subst n1
    have n2 := m2 rfl
    subst n2
    have n3 := m3 rfl
    subst n3
    have n4 := m4 rfl
    subst n4
    have n6 := m6 rfl
    subst n6
    have n7 := m7 rfl
    subst n7
    have n8 := m8 rfl
    subst n8
    have n9 := m9 rfl
    subst n9
    have n10 := m10 rfl
    subst n10
    clear hn hr m0 m1 m2 m3 m4 m6 m7 m8 m9 m10
    simp only [List.setIfInBounds_toArray, List.set_cons_zero, List.set_cons_succ]
    obtain ⟨c, hc⟩ : ∃ c, c = (sealB x I == l) := ⟨_, rfl⟩
    rw [← hc]
    have HCC := Lib.hid hc
    have HK := Lib.hid j.keep
    clear hc j
    have y0 := HC0.out _ HK.out
    cases c
    · have hu : unsealB kind l = ([], 36) := by
        have h := HCC.out
        rw [HU.out, if_pos]
        intro e
        rw [e] at h
        simp at h
      have HU2 := Lib.hid hu
      clear hu
      go_wp2
      go_ret2
      exact ⟨.slice none 0 0, by rw [HU2.out]; rfl, by rw [HU2.out]; exact Sl.nil _ _, HK.out⟩
    · have he : sealB x I = l := by simpa using HCC.out.symm
      have hu : unsealB kind l = if x ≠ kind then ([], 21) else (I, 0) := by rw [HU.out, if_neg (by simpa using he)]
      clear he
      obtain ⟨c2, hc2⟩ : ∃ c, c = decide (x = kind) := ⟨_, rfl⟩
      cases c2
      · have hk : x ≠ kind := by simpa using hc2
        have hk2 : ((x.toNat : Int) == (kind.toNat : Int)) = false := by
          rw [beq_eq_false_iff_ne]
          intro e
          exact hk (UInt8.toNat_inj.1 (by omega))
        have hk3 : ((x.toNat : Int) != (kind.toNat : Int)) = true := by rw [bne, hk2]; rfl
        have hk4 : (x.toNat == kind.toNat) = false := by
          rw [beq_eq_false_iff_ne]
          intro e
          exact hk (UInt8.toNat_inj.1 e)
        have hk5 : (x.toNat != kind.toNat) = true := by rw [bne, hk4]; rfl
        rw [if_pos hk] at hu
        have HU2 := Lib.hid hu
        clear hu hk hc2
        go_wp2
        go_ret2
        exact ⟨.slice none 0 0, by rw [HU2.out]; rfl, by rw [HU2.out]; exact Sl.nil _ _, HK.out⟩
      · have hk : x = kind := by simpa using hc2
        subst hk
        rw [if_neg (by simp)] at hu
        have HU2 := Lib.hid hu
        have HBI2 := Lib.hid (cloneB_any _ _ I (HBI.out _ HK.out) (by have h := HCC.out; have h2 := congrArg List.length (show sealB x I = l from by simpa using h.symm); rw [sealB_length] at h2; have := HN.out; omega))
        clear hu hc2
        go_wp2_with fail
        refine HBI2.out.mono ?_
        rintro e w6 ⟨v6, rfl, hs6, -, hb6⟩
        have HS6 := Lib.hid hs6; have HK6 := Lib.hid (HK.out.trans (Keep.of_below hb6 _))
        clear hs6 hb6
        obtain ⟨a6, c6, e6⟩ : ∃ a c, v6 = .slice a I.length c := let ⟨_, a, c, e, _⟩ := HS6.out; ⟨a, c, e⟩
        subst e6
        go_wp2
        go_ret2
        exact ⟨.slice a6 I.length c6, by rw [HU2.out]; rfl, by rw [HU2.out]; exact HS6.out, HK6.out⟩

theorem unseal_any {w : World} (kind : UInt8) {v : Value} {l : Bs} (hb : BytesAt w v l) (hl : l.length ≤ 10000000000000) : Calls Try.prog 57 #[.int .u8 (kind.toNat : Int), v] w (UnsealPost kind l w) := by
  by_cases h : l.length < 5
  · exact unseal_short kind hb h
  · exact unseal_long kind hb (by omega) hl
end Go.Proofs.Ytlajejbglpggeaa
