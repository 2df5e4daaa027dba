/-
  lock: encode, decode, fresh, gone, right.
-/
import Derived.Test.YtlajejbglpggeaaLock1
import Derived.Test.YtlajejbglpggeaaCode4
namespace Go.Proofs.Ytlajejbglpggeaa
open Go.RowKit Go.Proofs Go.Lib

theorem lkgone_any (k : Int) (w : World) : Calls Try.prog 28 #[.int .i64 k] w fun e w' => e = .returned (.int .i64 (if k = 4 then 0 else k)) ∧ w = w' := by
  by_cases h : k = 4
  · subst h
    rw [if_pos rfl]
    go_enter Try.func28, Try.ntmps28
    go_wp2
    go_ret
    exact ⟨rfl, rfl⟩
  · have h1 : (k == 4) = false := by simpa using h
    rw [if_neg h]
    clear h
    go_enter Try.func28, Try.ntmps28
    go_wp2
    go_ret
    exact ⟨rfl, rfl⟩

/-- may times be? -/
def rightT (now stale : Int) : Bool := decide (0 ≤ now) && decide (now ≤ 1125899906842624) && decide (1 ≤ stale)
set_option maxRecDepth 100000 in
theorem lkright_any (now stale : Int) (w : World) : Calls Try.prog 20 #[.int .i64 now, .int .i64 stale] w fun e w' => e = .returned (.bool (rightT now stale)) ∧ w = w' := by
  obtain ⟨a, ha⟩ : ∃ a, a = decide (0 ≤ now) := ⟨_, rfl⟩
  obtain ⟨b, hb⟩ : ∃ a, a = decide (now ≤ 1125899906842624) := ⟨_, rfl⟩
  obtain ⟨c, hc⟩ : ∃ a, a = decide (1 ≤ stale) := ⟨_, rfl⟩
  have hr : rightT now stale = (a && b && c) := by unfold rightT; rw [ha, hb, hc]
  rw [hr]
  replace ha := ha.symm; replace hb := hb.symm; replace hc := hc.symm
  cases a
  · have h1 : ¬ 0 ≤ now := of_decide_eq_false ha
    clear hr hb hc ha
    go_enter Try.func20, Try.ntmps20
    go_wp2
    go_ret
    exact ⟨rfl, rfl⟩
  · have h1 : 0 ≤ now := of_decide_eq_true ha
    cases b
    · have h2 : ¬ now ≤ 1125899906842624 := of_decide_eq_false hb
      clear hr hb hc ha
      go_enter Try.func20, Try.ntmps20
      go_wp2
      go_ret
      exact ⟨rfl, rfl⟩
    · have h2 : now ≤ 1125899906842624 := of_decide_eq_true hb
      cases c
      · have h3 : ¬ 1 ≤ stale := of_decide_eq_false hc
        clear hr hb hc ha
        go_enter Try.func20, Try.ntmps20
        go_wp2
        go_ret
        exact ⟨rfl, rfl⟩
      · have h3 : 1 ≤ stale := of_decide_eq_true hc
        clear hr hb hc ha
        go_enter Try.func20, Try.ntmps20
        go_wp2
        go_ret
        exact ⟨rfl, rfl⟩

/-- a lock's bytes -/
def lockB (since : Nat) (alone : Bool) : Bs := sealB 76 (leB 8 since ++ leB 1 (if alone then 1 else 0))
theorem lockB_length (since : Nat) (alone : Bool) : (lockB since alone).length = 14 := by simp [lockB, sealB_length, leB_length]

theorem wnum0 {w : World} {wb base : Nat} {l : Bs} (h : WrAt w wb base l) (hl : l.length ≤ 100000000000000) : Calls Try.prog 50 #[.pointer (some ⟨wb, 0, none⟩), .int .u64 0, .int .i64 1] w (WrPost wb base (l ++ leB 1 0) w) := wnum_any h 0 (by omega) 1 hl
theorem wnum1 {w : World} {wb base : Nat} {l : Bs} (h : WrAt w wb base l) (hl : l.length ≤ 100000000000000) : Calls Try.prog 50 #[.pointer (some ⟨wb, 0, none⟩), .int .u64 1, .int .i64 1] w (WrPost wb base (l ++ leB 1 1) w) := wnum_any h 1 (by omega) 1 hl
theorem seal76 {w : World} {v : Value} {l : Bs} (hb : BytesAt w v l) (hl : l.length ≤ 10000000000000) : Calls Try.prog 51 #[.int .u8 76, v] w (FreshB (sealB 76 l) w) := seal_any 76 hb hl
theorem unseal76 {w : World} {v : Value} {l : Bs} (hb : BytesAt w v l) (hl : l.length ≤ 10000000000000) : Calls Try.prog 57 #[.int .u8 76, v] w (UnsealPost 76 l w) := unseal_any 76 hb hl

set_option maxRecDepth 100000 in
set_option maxHeartbeats 1000000 in
theorem lkenc_any (since : Nat) (hs : since ≤ 1125899906842624) (alone : Bool) (w : World) : Calls Try.prog 31 #[.agg #[.int .i64 since, .bool alone]] w fun e w' => ∃ v, e = .returned v ∧ BytesAt w' v (lockB since alone) ∧ Keep (fun _ => False) w w' := by
  have ka := (Keep.refl (fun _ => False) w).alloc (.cells #[.int .i64 since, .bool alone] 65)
  have hb := alloc_new w (.cells #[.int .i64 since, .bool alone] 65)
  obtain ⟨W0, hW0⟩ : ∃ W, W = w.alloc (.cells #[.int .i64 since, .bool alone] 65) := ⟨_, rfl⟩
  rw [← hW0] at ka hb
  have k1 := (Keep.refl (fun _ => False) W0).alloc (.cells #[.slice none 0 0] 88)
  have hw := WrAt.new W0
  have hb1 := k1.heap hb id
  obtain ⟨W1, hW1⟩ : ∃ W, W = W0.alloc (.cells #[.slice none 0 0] 88) := ⟨_, rfl⟩
  rw [← hW1] at k1 hw hb1
  obtain ⟨B, hB⟩ : ∃ B, B = W0.heap.size := ⟨_, rfl⟩
  have hz : w.heap.size + 1 = W0.heap.size := by rw [hW0]; simp
  rw [← hB] at hw hz
  have c0 : W1.cell? ⟨w.heap.size, 0, none⟩ = some (.int .i64 since) := by rw [cell_blk hb1]; rfl
  have H0 := Lib.hid hW0; have H1 := Lib.hid hW1; have HB := Lib.hid hB; have HZ := Lib.hid hz; have HW := Lib.hid hw; have HB1 := Lib.hid hb1; have KA := Lib.hid (ka.trans k1)
  clear ka hb hW0 k1 hw hb1 hW1 hB hz
  have hl1 : (leB 8 since ++ leB 1 1).length = 9 := by simp [leB_length]
  have hl0 : (leB 8 since ++ leB 1 0).length = 9 := by simp [leB_length]
  have HL1 := Lib.hid hl1; have HL0 := Lib.hid hl0
  clear hl1 hl0
  cases alone
  all_goals
    go_enter Try.func31, Try.ntmps31
    go_wp2_with fail
    rw [← H0.out, ← H1.out, HZ.out]
    refine (wnum_any HW.out since (by omega) 8 (by simp)).mono ?_
    rintro e w2 ⟨rfl, hw2, k2⟩
    rw [heldB_small 8 (by decide) (by decide), show ([] : Bs) ++ leB (Int.toNat 8) since = leB 8 since from rfl] at hw2
    have c1 := cell_blk (k2.heap HB1.out (fun e => by have := HZ.out; omega)) 1
    simp at c1
    have HW2 := Lib.hid hw2
    have K2 := Lib.hid (KA.out.trans' k2 (H := fun x => B ≤ x) (fun _ _ e => e.elim) (fun _ _ e => e))
    clear hw2 k2
    go_wp2_with fail
    first
      | ((with_reducible refine (wnum0 HW2.out (by simp [leB_length])).mono ?_); rintro e w3 ⟨rfl, hw3, k3⟩)
      | ((with_reducible refine (wnum1 HW2.out (by simp [leB_length])).mono ?_); rintro e w3 ⟨rfl, hw3, k3⟩)
    have HW3 := Lib.hid hw3
    have K3 := Lib.hid (K2.out.trans k3)
    clear hw3 k3 c1
    go_wp2_with fail
    refine (wdone_any HW3.out (by simp [leB_length])).mono ?_
    rintro e w4 ⟨v4, rfl, ho4, hb4⟩
    obtain ⟨a4, c4, rfl⟩ := own_slice ho4
    have HS4 := Lib.hid (Sl.of_owns ho4).1
    have K4 := Lib.hid (K3.out.trans' (Keep.of_below hb4 (fun _ => False)) (H := fun x => B ≤ x) (fun _ _ e => e) (fun _ _ e => e.elim))
    clear ho4 hb4
    go_wp2_with fail
    refine (seal76 HS4.out (by simp [leB_length])).mono ?_
    rintro e w5 ⟨v5, rfl, ho5, hb5⟩
    obtain ⟨a5, c5, rfl⟩ := own_slice ho5
    have HS5 := Lib.hid (Sl.of_owns ho5).1
    have K5 := Lib.hid (K4.out.trans' (Keep.of_below hb5 (fun _ => False)) (H := fun _ => False) (fun i hi e => by have := HZ.out; omega) (fun _ _ e => e.elim))
    clear ho5 hb5
    go_wp2
    go_ret
    exact ⟨_, rfl, HS5.out, K5.out⟩
end Go.Proofs.Ytlajejbglpggeaa
