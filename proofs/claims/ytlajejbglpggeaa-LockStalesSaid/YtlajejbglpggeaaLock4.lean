/-
  lock.decode, lock.fresh.
-/
import Derived.Test.YtlajejbglpggeaaLock3
import Derived.Test.YtlajejbglpggeaaResCell
namespace Go.Proofs.Ytlajejbglpggeaa
open Go.RowKit Go.Proofs Go.Lib

/-- bytes' lock -/
def decB (b : Bs) : Option (Nat × Bool) :=
  if (unsealB 76 b).2 = 0 ∧ (unsealB 76 b).1.length = 9 ∧ leN (((unsealB 76 b).1.drop 8).take 1) ≤ 1 ∧ leN ((unsealB 76 b).1.take 8) ≤ 1125899906842624 then
    some (leN ((unsealB 76 b).1.take 8), leN (((unsealB 76 b).1.drop 8).take 1) == 1) else none

theorem unseal_le (k : UInt8) (b : Bs) : (unsealB k b).1.length ≤ b.length := by
  unfold unsealB
  split
  · simp
  · split
    · simp
    · split
      · simp
      · split
        · simp
        · simp [List.length_take]; omega

def DecPost15 (l : Bs) (w : World) (e : Ending) (w' : World) : Prop :=
  ∃ (s : Int) (a : Bool), e = .returned (.tuple #[.agg #[.int .i64 s, .bool a], .bool (decB l).isSome]) ∧ (∀ p, decB l = some p → s = p.1 ∧ a = p.2) ∧ Keep (fun _ => False) w w'

theorem wrap64_small (a : Nat) (h : a ≤ 1125899906842624) : wrap64 (a : Int) = a := by unfold wrap64; omega
theorem wrap64_in (a : Nat) (h : a < 18446744073709551616) : (0 ≤ wrap64 (a : Int) ∧ wrap64 (a : Int) ≤ 1125899906842624) ↔ a ≤ 1125899906842624 := by unfold wrap64; omega
theorem mark_one (x : Int) (b : Bool) : (#[.int .i64 x, .bool b] : Array Value).all (·.oneCell') = true := by simp [Value.oneCell']
theorem info_mark : (Try.prog.info? 65).map (·.size) = some 2 := by kernel_rfl

set_option maxRecDepth 100000 in
set_option maxHeartbeats 2000000 in
theorem lkdec_any {w : World} {v : Value} {l : Bs} (hb : BytesAt w v l) (hl : l.length ≤ 10000000000000) : Calls Try.prog 42 #[v] w (DecPost15 l w) := by
  have hmf : ∀ (fn : Fn) (first cap : Array Value) (w : World), (Instr.makeFunc fn first cap).run Try.prog w = .ok (.func fn first cap) w := fun _ _ _ _ => rfl
  obtain ⟨va, vc, rfl⟩ : ∃ a c, v = .slice a l.length c := let ⟨_, a, c, e, _⟩ := hb; ⟨a, c, e⟩
  have ka := (Keep.refl (fun _ => False) w).alloc (.cells #[.int .i64 0, .bool false] 65)
  have hm0 := alloc_new w (.cells #[.int .i64 0, .bool false] 65)
  obtain ⟨W0, hW0⟩ : ∃ W, W = w.alloc (.cells #[.int .i64 0, .bool false] 65) := ⟨_, rfl⟩
  have hz0 : W0.heap.size = w.heap.size + 1 := by rw [hW0]; simp
  rw [← hW0] at ka hm0
  have HU := Lib.hid (unseal76 (Sl.keep hb ka (fun _ _ _ e => e)) hl)
  have hle := unseal_le 76 l
  have hD : decB l = if (unsealB 76 l).2 = 0 ∧ (unsealB 76 l).1.length = 9 ∧ leN (((unsealB 76 l).1.drop 8).take 1) ≤ 1 ∧ leN ((unsealB 76 l).1.take 8) ≤ 1125899906842624 then
    some (leN ((unsealB 76 l).1.take 8), leN (((unsealB 76 l).1.drop 8).take 1) == 1) else none := rfl
  unfold UnsealPost at HU
  obtain ⟨I, hI⟩ : ∃ I, I = (unsealB 76 l).1 := ⟨_, rfl⟩
  obtain ⟨k, hk⟩ : ∃ k, k = (unsealB 76 l).2 := ⟨_, rfl⟩
  rw [← hI] at HU hle hD
  rw [← hk] at HU hD
  obtain ⟨n, hn⟩ : ∃ n, n = l.length := ⟨_, rfl⟩
  rw [← hn] at HU hl hle ⊢
  have H0 := Lib.hid hW0; have HM0 := Lib.hid hm0; have HZ0 := Lib.hid hz0; have KA := Lib.hid ka; have HD := Lib.hid hD
  clear hb hW0 hm0 hz0 ka hD hI hk hn
  by_cases h0 : k = 0
  · subst h0
    go_enter Try.func42, Try.ntmps42
    go_wp2_with fail
    rw [← H0.out]
    refine HU.out.mono ?_
    rintro e w1 ⟨v1, rfl, hs1, k1⟩
    obtain ⟨a1, c1, rfl⟩ : ∃ a c, v1 = .slice a I.length c := let ⟨_, a, c, e, _⟩ := hs1; ⟨a, c, e⟩
    have hm1 := k1.heap HM0.out id
    have kf := (Keep.refl (fun _ => False) w1).alloc (.cells #[.int .u64 0] 22)
    have hf2 := alloc_new w1 (.cells #[.int .u64 0] 22)
    have hm2 := kf.heap hm1 id
    have hs2 : BytesAt (w1.alloc (.cells #[.int .u64 0] 22)) (.slice a1 I.length c1) I := Sl.keep hs1 kf (fun _ _ _ e => e)
    have k2 := (KA.out.trans k1).trans kf
    have hz1 : w.heap.size < w1.heap.size := by have := k1.size; have := HZ0.out; omega
    have hz2 : (w1.alloc (.cells #[.int .u64 0] 22)).heap.size = w1.heap.size + 1 := by simp
    obtain ⟨W2, hW2⟩ : ∃ W, W = w1.alloc (.cells #[.int .u64 0] 22) := ⟨_, rfl⟩
    obtain ⟨fb, hfb⟩ : ∃ b, b = w1.heap.size := ⟨_, rfl⟩
    rw [← hW2] at hf2 hm2 hs2 k2 hz2
    rw [← hfb] at hf2 hz1 hz2
    have HW2 := Lib.hid hW2; have HFB := Lib.hid hfb; have HM2 := Lib.hid hm2; have HF2 := Lib.hid hf2; have K2 := Lib.hid k2; have HZ := Lib.hid hz2; have HZ1 := Lib.hid hz1
    have hE1 := enters_of Try.func59 (by kernel_rfl) rfl
    have HDE := Lib.hid (decode_any ⟨59, #[], #[.pointer (some ⟨w.heap.size, 0, none⟩), .pointer (some ⟨fb, 0, none⟩)]⟩ hE1 hs2 (by omega) (F := fun x => x = w.heap.size ∨ x = fb) (fun x e => by omega) (Q := LkQ w.heap.size fb I) (Qe := LkE w.heap.size fb I)
      (fun W rb hrb hk hr => lkdec1_any hr ⟨hk.heap hm2 id, hk.heap hf2 id⟩ (by omega) (by omega) (by omega)))
    clear hs1 k1 hm1 kf hf2 hm2 hs2 k2 hz1 hz2 hW2 hfb hE1
    go_wp2_with fail
    rw [← HW2.out, ← HFB.out]
    refine HDE.out.mono ?_
    rintro e w4 ⟨w3, k, rfl, k3, k4, hc⟩
    have hz := HZ.out
    have hz1 := HZ1.out
    have hP : ∃ (s f : Int), LkBox w.heap.size fb s f w4 ∧ decB l = if k = 0 ∧ f ≤ 1 ∧ 0 ≤ s ∧ s ≤ 1125899906842624 then some (s.toNat, f == 1) else none := by
      rcases hc with ⟨rest, ⟨h9, rfl, hb⟩, hk⟩ | ⟨h9, hk, s, f, hb⟩
      · refine ⟨_, _, ⟨k4.heap hb.1 (by omega), k4.heap hb.2 (by omega)⟩, ?_⟩
        rw [HD.out]
        obtain ⟨a, ha⟩ : ∃ a, a = leN (I.take 8) := ⟨_, rfl⟩
        obtain ⟨b, hb⟩ : ∃ a, a = leN ((I.drop 8).take 1) := ⟨_, rfl⟩
        have ha2 : a < 18446744073709551616 := by
          have := leN_lt (I.take 8)
          rw [List.length_take, Nat.min_eq_left (by omega)] at this
          rw [ha]; exact this
        rw [← ha, ← hb]
        have hk0 : k = 0 ↔ I.length = 9 := by
          rw [hk, List.length_drop]
          by_cases h : I.length - 9 = 0
          · rw [if_pos h]; omega
          · rw [if_neg h]; omega
        have hw := wrap64_in a ha2
        have hcond : (True ∧ I.length = 9 ∧ b ≤ 1 ∧ a ≤ 1125899906842624) ↔ (k = 0 ∧ (b : Int) ≤ 1 ∧ 0 ≤ wrap64 (a : Int) ∧ wrap64 (a : Int) ≤ 1125899906842624) := by
          constructor
          · rintro ⟨-, h1, h2, h3⟩
            exact ⟨hk0.2 h1, by omega, (hw.2 h3).1, (hw.2 h3).2⟩
          · rintro ⟨h1, h2, h3⟩
            exact ⟨trivial, hk0.1 h1, by omega, hw.1 h3⟩
        by_cases hq : k = 0 ∧ (b : Int) ≤ 1 ∧ 0 ≤ wrap64 (a : Int) ∧ wrap64 (a : Int) ≤ 1125899906842624
        · rw [if_pos hq, if_pos (hcond.2 hq)]
          have h1 := hcond.2 hq
          have e1 : (wrap64 (a : Int)).toNat = a := by rw [wrap64_small a h1.2.2.2, Int.toNat_natCast]
          have e2 : ((b : Int) == 1) = (b == 1) := by
            by_cases hb1 : b = 1
            · subst hb1; rfl
            · rw [beq_eq_false_iff_ne.2 hb1, beq_eq_false_iff_ne.2 (by omega)]
          rw [e1, e2]
        · rw [if_neg hq, if_neg (fun h => hq (hcond.1 h))]
      · refine ⟨s, f, ⟨k4.heap hb.1 (by omega), k4.heap hb.2 (by omega)⟩, ?_⟩
        rw [HD.out, if_neg (by omega), if_neg (by omega)]
    obtain ⟨s, f, ⟨hm4, hf4⟩, hdec⟩ := hP
    have hk4 : Keep (fun _ => False) w w4 := ((K2.out.trans' k3 (H := fun x => w.heap.size ≤ x) (fun _ _ e => e.elim) (fun i hi e => by omega)).trans' k4 (H := fun x => w.heap.size ≤ x) (fun _ _ e => e) (fun i hi e => by omega)).mono (fun i hi e => by omega)
    have fin : ∀ (al ok : Bool) W9, W9.heap[w.heap.size]? = some (.cells #[.int .i64 s, .bool al] 65 (0, 0)) → Keep (fun x => x = w.heap.size) w4 W9 → al = (f == 1) → ok = decide (k = 0 ∧ f ≤ 1 ∧ 0 ≤ s ∧ s ≤ 1125899906842624) → DecPost15 l w (.returned (.tuple #[.agg #[.int .i64 s, .bool al], .bool ok])) W9 := fun al ok W9 h9 hk9 ha hok => by
      refine ⟨s, al, ?_, ?_, hk4.trans' hk9 (fun _ _ e => e) (fun i hi e => by omega)⟩
      · rw [hdec, hok]
        by_cases hq : k = 0 ∧ f ≤ 1 ∧ 0 ≤ s ∧ s ≤ 1125899906842624
        · rw [if_pos hq, decide_eq_true hq]; rfl
        · rw [if_neg hq, decide_eq_false hq]; rfl
      · intro p hp
        rw [hdec] at hp
        by_cases hq : k = 0 ∧ f ≤ 1 ∧ 0 ≤ s ∧ s ≤ 1125899906842624
        · rw [if_pos hq] at hp
          cases hp
          exact ⟨by simp only []; omega, ha⟩
        · rw [if_neg hq] at hp; cases hp
    have FIN := Lib.hid fin
    have c0 := cell_blk hm4 0
    have c1' := cell_blk hm4 1
    have f1' := frozen_blk hm4 1
    have c2 := cell_blk hf4 0
    simp at c0 c1' c2
    obtain ⟨al, hal⟩ : ∃ al, al = (f == 1) := ⟨_, rfl⟩
    have hs4 := set_blk hm4 1 (.bool al)
    simp at hs4
    have HS4 := Lib.hid hs4; have HAL := Lib.hid hal
    clear hz hz1 hc hk4 fin hdec hm4 hf4 hs4 k3 k4 HDE HU HW2 HFB HM2 HF2 K2 HZ HZ1 HD HM0 HZ0 KA H0 hle hl
    replace hal := hal.symm
    have hkc : k ≠ 0 ∨ (k = 0 ∧ 1 < f) ∨ (k = 0 ∧ f ≤ 1 ∧ s < 0) ∨ (k = 0 ∧ f ≤ 1 ∧ 0 ≤ s ∧ 1125899906842624 < s) ∨ (k = 0 ∧ f ≤ 1 ∧ 0 ≤ s ∧ s ≤ 1125899906842624) := by omega
    obtain ⟨kb, hkb⟩ : ∃ b, b = (k == 0) := ⟨_, rfl⟩
    obtain ⟨ok, hok⟩ : ∃ b, b = decide (k = 0 ∧ f ≤ 1 ∧ 0 ≤ s ∧ s ≤ 1125899906842624) := ⟨_, rfl⟩
    have HOK := Lib.hid hok
    rcases hkc with hk | ⟨hk, h1⟩ | ⟨hk, h1, h2⟩ | ⟨hk, h1, h2, h3⟩ | ⟨hk, h1, h2, h3⟩
    case' inl => obtain rfl : kb = false := by rw [hkb]; simpa using hk
    case' inl => obtain rfl : ok = false := by rw [hok]; exact decide_eq_false (fun e => hk e.1)
    case' inr.inl => obtain rfl : kb = true := by rw [hkb]; simpa using hk
    case' inr.inl => obtain rfl : ok = false := by rw [hok]; exact decide_eq_false (fun e => by omega)
    case' inr.inr.inl => obtain rfl : kb = true := by rw [hkb]; simpa using hk
    case' inr.inr.inl => obtain rfl : ok = false := by rw [hok]; exact decide_eq_false (fun e => by omega)
    case' inr.inr.inr.inl => obtain rfl : kb = true := by rw [hkb]; simpa using hk
    case' inr.inr.inr.inl => obtain rfl : ok = false := by rw [hok]; exact decide_eq_false (fun e => by omega)
    case' inr.inr.inr.inl => have h4 : decide (s ≤ 1125899906842624) = false := decide_eq_false (by omega)
    case' inr.inr.inr.inr => obtain rfl : kb = true := by rw [hkb]; simpa using hk
    case' inr.inr.inr.inr => obtain rfl : ok = true := by rw [hok]; exact decide_eq_true ⟨hk, h1, h2, h3⟩
    all_goals replace hkb := hkb.symm
    all_goals clear hk hok
    all_goals as_aux_lemma =>
    go_wp2_with (first | (refine wpList_store_box rfl 65 (.tmp 2) (.tmp 21) rfl w.heap.size #[.int .i64 s, .bool al] (by rfl) (by rfl) HS4.out (by rw [info_mark]; rfl) rfl (mark_one _ _) ?_; intro W9 hA9 kA9; have HA9 := Lib.hid hA9; have HK9 := Lib.hid kA9; clear hA9 kA9))
    have hf9 : Keep (fun x => x = w.heap.size) w4 W9 := ((Keep.refl (fun x => x = w.heap.size) w4).setCell (p := ⟨w.heap.size, 1, none⟩) (fun _ => rfl) _).trans HK9.out
    have hfin := FIN.out _ _ W9 HA9.out hf9 HAL.out HOK.out
    refine bodyPost_ret (results_cell_tmp1 _ _ _ _ _ _ _ (by rfl) HA9.out Try.underlying65 rfl (by rw [info_mark]; rfl) rfl) rfl hfin
  · have hk1 : (k != 0) = true := by simpa using h0
    have hk2 : (k == 0) = false := by simpa using h0
    have HN := Lib.hid (show decB l = none from by rw [HD.out, if_neg (fun h => h0 h.1)])
    clear h0
    go_enter Try.func42, Try.ntmps42
    go_wp2_with fail
    rw [← H0.out]
    refine HU.out.mono ?_
    rintro e w1 ⟨v1, rfl, hs1, k1⟩
    have hm1 := k1.heap HM0.out id
    have c0 := cell_blk hm1 0
    have c1 := cell_blk hm1 1
    simp at c0 c1
    have HM1 := Lib.hid hm1; have K1 := Lib.hid (KA.out.trans k1)
    clear hs1 k1 hm1
    go_wp2_with (first | (refine wpList_store_box rfl 65 (.tmp 2) (.tmp 14) rfl w.heap.size #[.int .i64 0, .bool false] (by rfl) (by rfl) HM1.out (by rw [info_mark]; rfl) rfl (mark_one _ _) ?_; intro W9 hA9 kA9; have HA9 := Lib.hid hA9; have HK9 := Lib.hid kA9; clear hA9 kA9))
    refine bodyPost_ret (results_cell_tmp1 _ _ _ _ _ _ _ (by rfl) HA9.out Try.underlying65 rfl (by rw [info_mark]; rfl) rfl) rfl ?_
    refine ⟨0, false, by rw [HN.out]; rfl, fun p hp => (by rw [HN.out] at hp; cases hp), K1.out.trans' HK9.out (fun _ _ e => e) (fun i hi e => by have := HZ0.out; omega)⟩

/-- is it a lock that is not stale? -/
def freshB (b : Bs) (now stale : Int) : Option Bool := (decB b).bind fun p => if now - (p.1 : Int) < stale then some p.2 else none
def FreshPost15 (l : Bs) (now stale : Int) (w : World) (e : Ending) (w' : World) : Prop :=
  ∃ (s : Int) (a : Bool), e = .returned (.tuple #[.agg #[.int .i64 s, .bool a], .bool (freshB l now stale).isSome]) ∧ (∀ p, freshB l now stale = some p → a = p) ∧ Keep (fun _ => False) w w'

theorem decB_in {l : Bs} {s : Nat} {a : Bool} (h : decB l = some (s, a)) : s ≤ 1125899906842624 := by
  unfold decB at h
  split at h
  · rename_i hc
    cases h
    exact hc.2.2.2
  · cases h

end Go.Proofs.Ytlajejbglpggeaa
