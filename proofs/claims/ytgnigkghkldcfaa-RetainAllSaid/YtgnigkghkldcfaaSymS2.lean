/-
  slices.symMergeCmpFunc at snapshots.
-/
import Derived.Test.YtgnigkghkldcfaaSymS1
namespace Go.Proofs.Ytgnigkghkldcfaa
open Go.RowKit Go.Proofs Go.Lib Go.Sort Go.Shelf

set_option maxHeartbeats 4000000 in
set_option maxRecDepth 1000000 in
theorem sym_firstS {K : Nat} (zE : ∀ w, (Go.sizeOf 108).run Try.prog w = .ok K w) {enc : Nat → List Value} {blk off cap a m b : Nat} {d0 d : Array Nat} {w0 w : World} {cf : Nat → Nat → Int} {le : Nat → Nat → Prop} (tr : ∀ x y z, le x y → le y z → le x z) {g : Nat} {cb : Array Value}
    (eg : ∀ args w, (callFunc g args).run Try.prog w = .ok (.enter g args) w) (hcmp : CmpLays Try.prog g cb enc K cf blk off d0.size w0) (R : RowK enc K w0 blk off d0) (hs : d0.size = d.size) (S : SWK enc K w0 blk off d w)
    (hm : m = a + 1) (hab : m < b) (hb : b ≤ d.size) (hsz : d.size < 4611686018427387904) (hr : Runs (ltOf cf) le a m b d) :
    Calls Try.prog 146 #[.slice (some ⟨blk, off, none⟩) d.size cap, .int .i64 a, .int .i64 m, .int .i64 b, .func (.func g) #[] cb] w fun e w' => e = .returned (.tuple #[]) ∧ ∃ d', Mrg le a b d d' ∧ SWK enc K w0 blk off d' w' := by
  have S0 : Aside (SWK enc K w0 blk off d w) := S
  have HC : Aside _ := hcmp
  have aE := isAggS
  have mixed : Try.prog.follows Departure.mixedOrders = true := by kernel_rfl
  rw [hm] at hr
  have HR := Lib.hid hr
  have HT : Aside _ := tr
  have hm1 : ((m : Int) - (a : Int) == 1) = true := by simp; omega
  have hm2 : m ≤ a + 1 := by omega
  have hm3 : a + 1 ≤ m := by omega
  clear S hcmp hr tr hm
  go_enter Try.func146, Try.ntmps146
  go_wp2
  go_loopg [10, 11] (b - a) (fun kx s10 s11 wr => ∃ (i j : Nat), s10 = .int .i64 i ∧ s11 = .int .i64 j ∧ a + 1 ≤ i ∧ i ≤ j ∧ j ≤ b ∧ j - i ≤ kx ∧ Hid (i = a + 1 ∨ ltOf cf d[i - 1]! d[a]! = true) ∧ Hid (j = b ∨ ltOf cf d[j]! d[a]! = false) ∧ Aside (SWK enc K w0 blk off d wr))
  case atStart => exact ⟨m, b, rfl, rfl, hm3, by omega, Nat.le_refl _, by omega, .inl (show m = a + 1 by omega), .inl rfl, S0⟩
  case round =>
    clear S0
    obtain ⟨i, j, rfl, rfl, hi, hij, hj, hkx, HI, HJ, S1⟩ := hrel
    by_cases hlt : i < j
    · have hltz : (i : Int) < (j : Int) := by omega
      obtain ⟨hN, hh⟩ : ∃ h, h = (i + j) / 2 := ⟨_, rfl⟩
      have ea1 : (((i : Int) + (j : Int)) / 2).toNat = hN := by omega
      have pa1 : (0 : Int) ≤ ((i : Int) + (j : Int)) / 2 := by omega
      have ba1 : ((i : Int) + (j : Int)) / 2 < (d.size : Int) := by omega
      have pc1 : (0 : Int) ≤ (a : Int) := by omega
      have bc1 : (a : Int) < (d.size : Int) := by omega
      have hzN : (((i : Int) + (j : Int)) / 2) = (hN : Int) := by omega
      obtain ⟨x1, hx1⟩ : ∃ x, x = enc d[hN]! := ⟨_, rfl⟩
      obtain ⟨y1, hy1⟩ : ∃ x, x = enc d[a]! := ⟨_, rfl⟩
      obtain ⟨cv, hcv⟩ : ∃ c, c = cf d[hN]! d[a]! := ⟨_, rfl⟩
      have l1a : ∀ n os, Sem.run Try.prog (loadCellsFrom ⟨blk, off + hN * K, none⟩ 0 K #[]) (grow (wr.drewN n) os) = .ok x1.toArray (grow (wr.drewN n) os) := fun n os => by rw [hx1]; exact S1.out.ld R hs.symm Try.prog hN (by omega) n os
      have l1b : ∀ n os, Sem.run Try.prog (loadCellsFrom ⟨blk, off + a * K, none⟩ 0 K #[]) (grow (wr.drewN n) os) = .ok y1.toArray (grow (wr.drewN n) os) := fun n os => by rw [hy1]; exact S1.out.ld R hs.symm Try.prog a (by omega) n os
      have hc1 : ∀ n os, Calls Try.prog g (#[.agg x1.toArray, .agg y1.toArray] ++ cb) (grow (wr.drewN n) os) fun e w' => e = .returned (.int .i64 cv) ∧ ∃ q os', w' = grow ((grow (wr.drewN n) os).drewN q) os' := by rw [hx1, hy1, hcv]; exact S1.out.cmp HC.out hs.symm _ _
      have hNi : i ≤ hN ∧ hN < j := by omega
      obtain ⟨hN1, hN2⟩ := hNi
      have HZN := Lib.hid hzN
      have HX : Hid (cv = cf d[hN]! d[a]!) := hcv
      clear hx1 hy1 hh hzN hcv
      by_cases hlv : cv < 0
      · have hd1 : decide (cv < 0) = true := decide_eq_true hlv
        have HLV := Lib.hid hlv
        go_wp2_with fail
        go_quiet_grown (first | (go_at_fn g; refine Calls.grown_of (hc1 _ _)))
        have S2 : Aside (SWK enc K w0 blk off d (grow (wr.drewN nq) osq)) := S1.out.grown nq osq
        clear l1a l1b hc1 S1
        generalize grow (wr.drewN nq) osq = w2 at S2 ⊢
        clear nq osq ea1
        go_wp2
        go_roundg (j - (hN + 1))
        case measure => omega
        case rel => exact ⟨hN + 1, j, by rw [HZN.out]; go_num, rfl, by omega, by omega, hj, Nat.le_refl _, .inr (by rw [Nat.add_sub_cancel]; show decide (cf _ _ < 0) = true; rw [← HX.out]; exact decide_eq_true HLV.out), HJ, S2⟩
      · have hd1 : decide (cv < 0) = false := decide_eq_false hlv
        have HLV := Lib.hid hlv
        go_wp2_with fail
        go_quiet_grown (first | (go_at_fn g; refine Calls.grown_of (hc1 _ _)))
        have S2 : Aside (SWK enc K w0 blk off d (grow (wr.drewN nq) osq)) := S1.out.grown nq osq
        clear l1a l1b hc1 S1
        generalize grow (wr.drewN nq) osq = w2 at S2 ⊢
        clear nq osq ea1
        go_wp2
        go_roundg (hN - i)
        case measure => omega
        case rel => exact ⟨i, hN, rfl, by rw [HZN.out], hi, hN1, by omega, Nat.le_refl _, HI, .inr (by show decide (cf _ _ < 0) = false; rw [← HX.out]; exact decide_eq_false (Int.not_lt.2 HLV.out)), S2⟩
    · obtain rfl : i = j := by omega
      have hltz : ¬ (i : Int) < (i : Int) := by omega
      have S2 : Aside (SWK enc K w0 blk off d wr) := S1
      clear S1 hkx
      go_wp2
      obtain ⟨wo, hwo⟩ : ∃ wo, wo = wr := ⟨_, rfl⟩
      rw [← hwo] at S2 ⊢
      clear hwo
      go_loopg [13] (i - 1 - a) (fun kx s13 wr => ∃ (k : Nat) (dk : Array Nat), s13 = .int .i64 k ∧ a ≤ k ∧ k ≤ i - 1 ∧ kx = i - 1 - k ∧ Hid (Up a k d dk) ∧ Aside (SWK enc K w0 blk off dk wr))
      case atStart => exact ⟨a, d, rfl, Nat.le_refl _, by omega, rfl, Up.start a d, S2⟩
      case round =>
        clear S2
        obtain ⟨k, dk, rfl, hak, hki, hkx, HU, S1⟩ := hrel
        have HKX := Lib.hid hkx; clear hkx
        by_cases hlk : k < i - 1
        · have hltz2 : (k : Int) < (i : Int) - 1 := by omega
          have hdz : Hid (dk.size = d.size) := HU.out.size
          obtain ⟨iN, hiN⟩ : ∃ q, q = k := ⟨_, rfl⟩
          obtain ⟨jN, hjN⟩ : ∃ q, q = k + 1 := ⟨_, rfl⟩
          have ea1 : ((k : Int)).toNat = iN := by omega
          have pa1 : (0 : Int) ≤ (k : Int) := by omega
          have ba1 : (k : Int) < (d.size : Int) := by omega
          have ec1 : ((k : Int) + 1).toNat = jN := by omega
          have pc1 : (0 : Int) ≤ (k : Int) + 1 := by omega
          have bc1 : (k : Int) + 1 < (d.size : Int) := by omega
          have rc1 : IntKind.i64.wrap ((k : Int) + 1) = (k : Int) + 1 := by rw [IntKind.wrap_i64]; omega
          obtain ⟨x1, hx1⟩ : ∃ x, x = enc dk[k]! := ⟨_, rfl⟩
          obtain ⟨y1, hy1⟩ : ∃ x, x = enc dk[k + 1]! := ⟨_, rfl⟩
          have hiL : k < dk.size := by rw [hdz.out]; omega
          have hjL : (k + 1) < dk.size := by rw [hdz.out]; omega
          have sz0 : dk.size = d0.size := by rw [hdz.out, hs]
          have l1 := S1.out.ld1 R sz0 Try.prog k hiL
          have l2 := S1.out.ld1 R sz0 Try.prog (k + 1) hjL
          have s1 := S1.out.st1 R sz0 Try.prog k hiL dk[(k + 1)]!
          have s2 := S1.out.st2 R sz0 Try.prog k (k + 1) hiL hjL dk[(k + 1)]! dk[k]!
          have S3 : Aside _ := S1.out.swapped R k (k + 1) hiL hjL
          have sx : x1.length = K := by rw [hx1]; exact R.hk _
          have sy : y1.length = K := by rw [hy1]; exact R.hk _
          rw [← hx1, ← hiN] at l1
          rw [← hy1, ← hjN] at l2
          rw [← hy1, ← hiN] at s1
          rw [← hx1, ← hy1, ← hjN, ← hiN] at s2
          have S2 : Aside (SWK enc K w0 blk off (swp dk k (k + 1)) ((wr.drew.setCells blk (off + iN * K) y1).setCells blk (off + jN * K) x1)) := by rw [hiN, hjN, hx1, hy1]; exact S3
          clear S1 S3 hx1 hy1 hiN hjN hiL hjL sz0
          go_wp2_with fail
          go_big_region
          clear l1 l2 s1 s2
          generalize (wr.drew.setCells blk (off + iN * K) y1).setCells blk (off + jN * K) x1 = w2 at S2 ⊢
          clear ea1 ec1
          go_wp2
          go_roundg (i - 1 - (k + 1))
          case measure => have := HKX.out; omega
          case rel => exact ⟨k + 1, _, by go_num, by omega, by omega, rfl, HU.out.step hak (by omega), S2⟩
        · have hltz2 : ¬ (k : Int) < (i : Int) - 1 := by omega
          have hkk : k = i - 1 := by omega
          rw [hkk] at HU
          clear hkk
          have HF := Lib.hid (HR.out.first HT.out ⟨hi, hj⟩ hb HI.out HJ.out (HU.out.rot hi))
          go_wp2
          refine bodyPost_ret (results_none rfl _ _ _) rfl ?_
          exact ⟨rfl, dk, HF.out, S1.out⟩

set_option maxHeartbeats 4000000 in
set_option maxRecDepth 1000000 in
theorem sym_lastS {K : Nat} (zE : ∀ w, (Go.sizeOf 108).run Try.prog w = .ok K w) {enc : Nat → List Value} {blk off cap a m b : Nat} {d0 d : Array Nat} {w0 w : World} {cf : Nat → Nat → Int} {le : Nat → Nat → Prop} (tr : ∀ x y z, le x y → le y z → le x z) {g : Nat} {cb : Array Value}
    (eg : ∀ args w, (callFunc g args).run Try.prog w = .ok (.enter g args) w) (hcmp : CmpLays Try.prog g cb enc K cf blk off d0.size w0) (R : RowK enc K w0 blk off d0) (hs : d0.size = d.size) (S : SWK enc K w0 blk off d w)
    (hm : b = m + 1) (ham : a + 1 < m) (hb : b ≤ d.size) (hsz : d.size < 4611686018427387904) (hr : Runs (ltOf cf) le a m b d) :
    Calls Try.prog 146 #[.slice (some ⟨blk, off, none⟩) d.size cap, .int .i64 a, .int .i64 m, .int .i64 b, .func (.func g) #[] cb] w fun e w' => e = .returned (.tuple #[]) ∧ ∃ d', Mrg le a b d d' ∧ SWK enc K w0 blk off d' w' := by
  have S0 : Aside (SWK enc K w0 blk off d w) := S
  have HC : Aside _ := hcmp
  have mixed : Try.prog.follows Departure.mixedOrders = true := by kernel_rfl
  rw [hm] at hr
  have HR := Lib.hid hr
  have HT : Aside _ := tr
  have hm1 : ((m : Int) - (a : Int) == 1) = false := by simp; omega
  have hm0 : ((b : Int) - (m : Int) == 1) = true := by simp; omega
  have hm2 : b ≤ m + 1 := by omega
  have hm3 : m + 1 ≤ b := by omega
  have HB := Lib.hid hm
  clear S hcmp hr tr hm
  go_enter Try.func146, Try.ntmps146
  go_wp2
  go_loopg [14, 15] (m - a) (fun kx s14 s15 wr => ∃ (i j : Nat), s14 = .int .i64 i ∧ s15 = .int .i64 j ∧ a ≤ i ∧ i ≤ j ∧ j ≤ m ∧ j - i ≤ kx ∧ Hid (i = a ∨ ltOf cf d[m]! d[i - 1]! = false) ∧ Hid (j = m ∨ ltOf cf d[m]! d[j]! = true) ∧ Aside (SWK enc K w0 blk off d wr))
  case atStart => exact ⟨a, m, rfl, rfl, Nat.le_refl _, by omega, Nat.le_refl _, Nat.le_refl _, .inl rfl, .inl rfl, S0⟩
  case round =>
    clear S0
    obtain ⟨i, j, rfl, rfl, hi, hij, hj, hkx, HI, HJ, S1⟩ := hrel
    by_cases hlt : i < j
    · have hltz : (i : Int) < (j : Int) := by omega
      obtain ⟨hN, hh⟩ : ∃ h, h = (i + j) / 2 := ⟨_, rfl⟩
      have ea1 : (((i : Int) + (j : Int)) / 2).toNat = hN := by omega
      have pa1 : (0 : Int) ≤ ((i : Int) + (j : Int)) / 2 := by omega
      have ba1 : ((i : Int) + (j : Int)) / 2 < (d.size : Int) := by omega
      have pc1 : (0 : Int) ≤ (m : Int) := by omega
      have bc1 : (m : Int) < (d.size : Int) := by omega
      have hzN : (((i : Int) + (j : Int)) / 2) = (hN : Int) := by omega
      obtain ⟨x1, hx1⟩ : ∃ x, x = enc d[m]! := ⟨_, rfl⟩
      obtain ⟨y1, hy1⟩ : ∃ x, x = enc d[hN]! := ⟨_, rfl⟩
      obtain ⟨cv, hcv⟩ : ∃ c, c = cf d[m]! d[hN]! := ⟨_, rfl⟩
      have l1a : ∀ n os, Sem.run Try.prog (loadCellsFrom ⟨blk, off + m * K, none⟩ 0 K #[]) (grow (wr.drewN n) os) = .ok x1.toArray (grow (wr.drewN n) os) := fun n os => by rw [hx1]; exact S1.out.ld R hs.symm Try.prog m (by omega) n os
      have l1b : ∀ n os, Sem.run Try.prog (loadCellsFrom ⟨blk, off + hN * K, none⟩ 0 K #[]) (grow (wr.drewN n) os) = .ok y1.toArray (grow (wr.drewN n) os) := fun n os => by rw [hy1]; exact S1.out.ld R hs.symm Try.prog hN (by omega) n os
      have hc1 : ∀ n os, Calls Try.prog g (#[.agg x1.toArray, .agg y1.toArray] ++ cb) (grow (wr.drewN n) os) fun e w' => e = .returned (.int .i64 cv) ∧ ∃ q os', w' = grow ((grow (wr.drewN n) os).drewN q) os' := by rw [hx1, hy1, hcv]; exact S1.out.cmp HC.out hs.symm _ _
      have hNi : i ≤ hN ∧ hN < j := by omega
      obtain ⟨hN1, hN2⟩ := hNi
      have HZN := Lib.hid hzN
      have HX : Hid (cv = cf d[m]! d[hN]!) := hcv
      clear hx1 hy1 hh hzN hcv
      by_cases hlv : cv < 0
      · have hd1 : decide (cv < 0) = true := decide_eq_true hlv
        have HLV := Lib.hid hlv
        go_wp2_with fail
        go_quiet_grown (first | (go_at_fn g; refine Calls.grown_of (hc1 _ _)))
        have S2 : Aside (SWK enc K w0 blk off d (grow (wr.drewN nq) osq)) := S1.out.grown nq osq
        clear l1a l1b hc1 S1
        generalize grow (wr.drewN nq) osq = w2 at S2 ⊢
        clear nq osq ea1
        go_wp2
        go_roundg (hN - i)
        case measure => omega
        case rel => exact ⟨i, hN, rfl, by rw [HZN.out], hi, hN1, by omega, Nat.le_refl _, HI, .inr (by show decide (cf _ _ < 0) = true; rw [← HX.out]; exact decide_eq_true HLV.out), S2⟩
      · have hd1 : decide (cv < 0) = false := decide_eq_false hlv
        have HLV := Lib.hid hlv
        go_wp2_with fail
        go_quiet_grown (first | (go_at_fn g; refine Calls.grown_of (hc1 _ _)))
        have S2 : Aside (SWK enc K w0 blk off d (grow (wr.drewN nq) osq)) := S1.out.grown nq osq
        clear l1a l1b hc1 S1
        generalize grow (wr.drewN nq) osq = w2 at S2 ⊢
        clear nq osq ea1
        go_wp2
        go_roundg (j - (hN + 1))
        case measure => omega
        case rel => exact ⟨hN + 1, j, by rw [HZN.out]; go_num, rfl, by omega, by omega, hj, Nat.le_refl _, .inr (by rw [Nat.add_sub_cancel]; show decide (cf _ _ < 0) = false; rw [← HX.out]; exact decide_eq_false (Int.not_lt.2 HLV.out)), HJ, S2⟩
    · obtain rfl : i = j := by omega
      have hltz : ¬ (i : Int) < (i : Int) := by omega
      have S2 : Aside (SWK enc K w0 blk off d wr) := S1
      clear S1 hkx
      go_wp2
      obtain ⟨wo, hwo⟩ : ∃ wo, wo = wr := ⟨_, rfl⟩
      rw [← hwo] at S2 ⊢
      clear hwo
      go_loopg [17] (m - i) (fun kx s17 wr => ∃ (k : Nat) (dk : Array Nat), s17 = .int .i64 k ∧ i ≤ k ∧ k ≤ m ∧ kx = k - i ∧ Hid (Dn k m d dk) ∧ Aside (SWK enc K w0 blk off dk wr))
      case atStart => exact ⟨m, d, rfl, hj, Nat.le_refl _, rfl, Dn.start m d, S2⟩
      case round =>
        clear S2
        obtain ⟨k, dk, rfl, hik, hkm, hkx, HU, S1⟩ := hrel
        have HKX := Lib.hid hkx; clear hkx
        by_cases hlk : i < k
        · have hltz2 : (i : Int) < (k : Int) := by omega
          have hdz : Hid (dk.size = d.size) := HU.out.size
          obtain ⟨kp, hkp⟩ : ∃ q, q + 1 = k := ⟨k - 1, by omega⟩
          have HKP := Lib.hid hkp
          have zkp : (k : Int) - 1 = (kp : Int) := by omega
          obtain ⟨iN, hiN⟩ : ∃ q, q = k := ⟨_, rfl⟩
          obtain ⟨jN, hjN⟩ : ∃ q, q = kp := ⟨_, rfl⟩
          have ea1 : ((k : Int)).toNat = iN := by omega
          have pa1 : (0 : Int) ≤ (k : Int) := by omega
          have ba1 : (k : Int) < (d.size : Int) := by omega
          have ec1 : ((k : Int) - 1).toNat = jN := by omega
          have pc1 : (0 : Int) ≤ (k : Int) - 1 := by omega
          have bc1 : (k : Int) - 1 < (d.size : Int) := by omega
          have rc1 : IntKind.i64.wrap ((k : Int) - 1) = (k : Int) - 1 := by rw [IntKind.wrap_i64]; omega
          obtain ⟨x1, hx1⟩ : ∃ x, x = enc dk[k]! := ⟨_, rfl⟩
          obtain ⟨y1, hy1⟩ : ∃ x, x = enc dk[kp]! := ⟨_, rfl⟩
          have hiL : k < dk.size := by rw [hdz.out]; omega
          have hjL : kp < dk.size := by rw [hdz.out]; omega
          have sz0 : dk.size = d0.size := by rw [hdz.out, hs]
          have l1 := S1.out.ld1 R sz0 Try.prog k hiL
          have l2 := S1.out.ld1 R sz0 Try.prog kp hjL
          have s1 := S1.out.st1 R sz0 Try.prog k hiL dk[kp]!
          have s2 := S1.out.st2 R sz0 Try.prog k kp hiL hjL dk[kp]! dk[k]!
          have S3 : Aside _ := S1.out.swapped R k kp hiL hjL
          have sx : x1.length = K := by rw [hx1]; exact R.hk _
          have sy : y1.length = K := by rw [hy1]; exact R.hk _
          rw [← hx1, ← hiN] at l1
          rw [← hy1, ← hjN] at l2
          rw [← hy1, ← hiN] at s1
          rw [← hx1, ← hy1, ← hiN, ← hjN] at s2
          have S2 : Aside (SWK enc K w0 blk off (swp dk k kp) ((wr.drew.setCells blk (off + iN * K) y1).setCells blk (off + jN * K) x1)) := by rw [hiN, hjN, hx1, hy1]; exact S3
          have HZK := Lib.hid zkp
          clear S1 S3 hx1 hy1 hiN hjN hiL hjL sz0 hkp zkp
          go_wp2_with fail
          go_big_region
          clear l1 l2 s1 s2
          generalize (wr.drew.setCells blk (off + iN * K) y1).setCells blk (off + jN * K) x1 = w2 at S2 ⊢
          clear ea1 ec1 rc1
          go_wp2
          go_roundg (kp - i)
          case measure => have := HKX.out; have := HKP.out; omega
          case rel => exact ⟨kp, _, by rw [← HZK.out], by have := HKP.out; omega, by have := HKP.out; omega, rfl, (show Hid (Dn kp m d (swp dk k kp)) from by have h := HU.out; rw [← HKP.out] at h ⊢; exact h.step (by have := HKP.out; omega) (by omega)), S2⟩
        · have hltz2 : ¬ (i : Int) < (k : Int) := by omega
          have hkk : k = i := by omega
          have hu := HU.out
          rw [hkk] at hu
          have hrot := hu.rot
          have HF0 := HR.out.last HT.out ⟨hi, hj⟩ (by have := HB.out; omega) HI.out HJ.out hrot
          rw [← HB.out] at HF0
          have HF := Lib.hid HF0
          clear hkk hu hrot HF0
          go_wp2
          refine bodyPost_ret (results_none rfl _ _ _) rfl ?_
          exact ⟨rfl, dk, HF.out, S1.out⟩
end Go.Proofs.Ytgnigkghkldcfaa
