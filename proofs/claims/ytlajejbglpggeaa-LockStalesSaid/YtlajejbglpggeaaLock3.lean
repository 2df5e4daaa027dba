/-
  lock.decode: its reading.
-/
import Derived.Test.YtlajejbglpggeaaLock2
namespace Go.Proofs.Ytlajejbglpggeaa
open Go.RowKit Go.Proofs Go.Lib

/-- what the reading of a lock leaves in its two boxes -/
def LkBox (mb fb : Nat) (s f : Int) (W : World) : Prop := W.heap[mb]? = some (.cells #[.int .i64 s, .bool false] 65 (0, 0)) ∧ W.heap[fb]? = some (.cells #[.int .u64 f] 22 (0, 0))
def LkQ (mb fb : Nat) (I : Bs) (rest : Bs) (W : World) : Prop := 9 ≤ I.length ∧ rest = I.drop 9 ∧ LkBox mb fb (wrap64 (leN (I.take 8))) (leN ((I.drop 8).take 1)) W
def LkE (mb fb : Nat) (I : Bs) (k : Int) (W : World) : Prop := I.length < 9 ∧ k = 20 ∧ ∃ s f, LkBox mb fb s f W

set_option maxRecDepth 100000 in
set_option maxHeartbeats 1000000 in
theorem lkdec1_any {W : World} {rb mb fb : Nat} {I : Bs} (hr : RdAt W rb I) (hb : LkBox mb fb 0 0 W) (h1 : rb ≠ mb) (h2 : rb ≠ fb) (h3 : mb ≠ fb) :
    Calls Try.prog 59 #[.pointer (some ⟨rb, 0, none⟩), .pointer (some ⟨mb, 0, none⟩), .pointer (some ⟨fb, 0, none⟩)] W (ReadPost (fun x => x = mb ∨ x = fb) rb (LkQ mb fb I) (LkE mb fb I) W) := by
  by_cases h8 : I.length < 8
  · have HS := Lib.hid (rdnum_short hr 8 (by rw [heldB_small 8 (by decide) (by decide)]; omega))
    have HF := Lib.hid (show ReadPost (fun x => x = mb ∨ x = fb) rb (LkQ mb fb I) (LkE mb fb I) W (.panicked (errChain 20)) W from ⟨Keep.refl _ _, .inr ⟨20, rfl, by omega, rfl, _, _, hb⟩⟩)
    clear hr hb h1 h2 h3 h8
    go_enter Try.func59, Try.ntmps59
    go_wp2_with fail
    refine HS.out.mono ?_
    rintro e w1 ⟨rfl, rfl⟩
    exact ⟨rfl, HF.out⟩
  · have HS := Lib.hid (rdnum_go hr 8 8 (heldB_small 8 (by decide) (by decide)) (by omega))
    obtain ⟨n, hn⟩ : ∃ n, n = leN (I.take 8) := ⟨_, rfl⟩
    have HN := Lib.hid hn
    unfold NumPost at HS
    rw [← hn] at HS
    have HB := Lib.hid hb; have N1 := Lib.hid h1; have N2 := Lib.hid h2; have N3 := Lib.hid h3
    have H8 := Lib.hid h8
    clear hr hb h1 h2 h3 h8 hn
    go_enter Try.func59, Try.ntmps59
    go_wp2_with fail
    refine HS.out.mono ?_
    rintro e w1 ⟨rfl, hr1, k1⟩
    have hm1 := k1.heap HB.out.1 (fun e => N1.out e.symm)
    have hf1 := k1.heap HB.out.2 (fun e => N2.out e.symm)
    have c0 := cell_blk hm1 0
    have f0 := frozen_blk hm1 0
    simp at c0
    have HM1 := Lib.hid hm1; have HF1 := Lib.hid hf1; have HR1 := Lib.hid hr1; have K1 := Lib.hid k1
    obtain ⟨s, hs⟩ : ∃ s, s = wrap64 (n : Int) := ⟨_, rfl⟩
    have HSS := Lib.hid hs
    have hm2 : (w1.setCell ⟨mb, 0, none⟩ (.int .i64 s)).heap[mb]? = some (.cells #[.int .i64 s, .bool false] 65 (0, 0)) := by rw [set_blk hm1]; rfl
    have hf2 : (w1.setCell ⟨mb, 0, none⟩ (.int .i64 s)).heap[fb]? = some (.cells #[.int .u64 0] 22 (0, 0)) := set_other hf1 (fun e => N3.out e.symm) _
    have k2 : Keep (fun x => x = mb) w1 (w1.setCell ⟨mb, 0, none⟩ (.int .i64 s)) := (Keep.refl (fun x => x = mb) w1).setCell (p := ⟨mb, 0, none⟩) (fun _ => rfl) _
    have hr2 : RdAt (w1.setCell ⟨mb, 0, none⟩ (.int .i64 s)) rb (I.drop 8) := by
      obtain ⟨v, q1, q2, q3⟩ := hr1
      refine ⟨v, k2.heap q1 N1.out, Sl.keep q2 k2 (fun b hb0 e e2 => ?_), q3⟩
      subst e2
      exact Sl.ne_cells q2 (by decide) hm1 (by
        intro y hy i2 hi2
        have : y = .int .i64 0 ∨ y = .bool false := by
          match i2 with
          | 0 => simp at hi2; exact .inl hi2.symm
          | 1 => simp at hi2; exact .inr hi2.symm
          | n + 2 => simp at hi2
        simp [bytesV] at hy
        obtain ⟨c, _, rfl⟩ := hy
        simp at this) hb0 e
    obtain ⟨w2, hw2⟩ : ∃ w2, w2 = w1.setCell ⟨mb, 0, none⟩ (.int .i64 s) := ⟨_, rfl⟩
    rw [← hw2] at hm2 hf2 k2 hr2
    have HW2 := Lib.hid hw2
    have hk2 : Keep (fun x => (x = mb ∨ x = fb) ∨ x = rb) W w2 := k1.trans' k2 (fun _ _ e => .inr e) (fun _ _ e => .inl (.inl e))
    have HM2 := Lib.hid hm2; have HF2 := Lib.hid hf2; have HK2 := Lib.hid hk2
    clear hm1 hf1 hr1 k1 hs hw2 hm2 hf2 hk2 k2 HM1 HF1 HR1 K1
    by_cases h9 : I.length < 9
    · have HS2 := Lib.hid (rdnum_short hr2 1 (by rw [heldB_small 1 (by decide) (by decide), List.length_drop]; omega))
      have H9 := Lib.hid h9
      clear hr2 h9
      go_wp2_with fail
      rw [← HSS.out, ← HW2.out]
      refine HS2.out.mono ?_
      rintro e w3 ⟨rfl, rfl⟩
      exact ⟨rfl, HK2.out, .inr ⟨20, rfl, H9.out, rfl, _, _, HM2.out, HF2.out⟩⟩
    · have HS2 := Lib.hid (rdnum_go hr2 1 1 (heldB_small 1 (by decide) (by decide)) (by rw [List.length_drop]; omega))
      unfold NumPost at HS2
      obtain ⟨f, hf⟩ : ∃ f, f = leN ((I.drop 8).take 1) := ⟨_, rfl⟩
      rw [← hf, List.drop_drop] at HS2
      have H9 := Lib.hid h9; have HF := Lib.hid hf
      clear hr2 h9 hf
      go_wp2_with fail
      rw [← HSS.out, ← HW2.out]
      refine HS2.out.mono ?_
      rintro e w3 ⟨rfl, hr3, k3⟩
      have hm3 := k3.heap HM2.out (fun e => N1.out e.symm)
      have hf3 := k3.heap HF2.out (fun e => N2.out e.symm)
      have c3 := cell_blk hf3 0
      have f3 := frozen_blk hf3 0
      simp at c3
      have HM3 := Lib.hid hm3; have HF3 := Lib.hid hf3; have HR3 := Lib.hid hr3; have K3 := Lib.hid k3
      clear hm3 hf3 hr3 k3
      go_wp2_with fail
      go_end0
      have k4 : Keep (fun x => x = fb) w3 (w3.setCell ⟨fb, 0, none⟩ (.int .u64 f)) := (Keep.refl (fun x => x = fb) w3).setCell (p := ⟨fb, 0, none⟩) (fun _ => rfl) _
      have hfin : Keep (fun x => (x = mb ∨ x = fb) ∨ x = rb) W (w3.setCell ⟨fb, 0, none⟩ (.int .u64 f)) := (HK2.out.trans' K3.out (fun _ _ e => e) (fun _ _ e => .inr e)).trans' k4 (fun _ _ e => e) (fun _ _ e => .inl (.inr e))
      refine ⟨hfin, .inl ⟨rfl, _, ?_, by have := H9.out; omega, rfl, ?_, ?_⟩⟩
      · obtain ⟨v, q1, q2, q3⟩ := HR3.out
        refine ⟨v, k4.heap q1 N2.out, Sl.keep q2 k4 (fun b hb0 e e2 => ?_), q3⟩
        subst e2
        exact Sl.ne_cells q2 (by decide) HF3.out (by
          intro y hy i2 hi2
          have : y = .int .u64 0 := by
            match i2 with
            | 0 => simp at hi2; exact hi2.symm
            | n + 1 => simp at hi2
          simp [bytesV] at hy
          obtain ⟨c, _, rfl⟩ := hy
          simp at this) hb0 e
      · rw [← HN.out, ← HSS.out]; exact k4.heap HM3.out (fun e => N3.out e)
      · rw [← HF.out, set_blk HF3.out]; rfl
end Go.Proofs.Ytlajejbglpggeaa
