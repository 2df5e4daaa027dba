/-
  slices.swapRangeCmpFunc at snapshots: what is exchanged.
-/
import Derived.Test.YtgnigkghkldcfaaSym
import Derived.Test.YtgnigkghkldcfaaSnap
import Derived.Shelf.SlSortCmp.KitK
namespace Go.Proofs.Ytgnigkghkldcfaa
open Go.RowKit Go.Proofs Go.Lib Go.Sort Go.Shelf

theorem isAggS (w : World) : (isAgg 108).run Try.prog w = .ok true w := by
  simp [isAgg, go_sem]
theorem sizeS (w : World) : (Go.sizeOf 108).run Try.prog w = .ok 37 w := by
  simp [Go.sizeOf, go_sem]
  rfl

set_option maxHeartbeats 4000000 in
set_option maxRecDepth 1000000 in
theorem swrS_any {K : Nat} (zE : ∀ w, (Go.sizeOf 108).run Try.prog w = .ok K w) {enc : Nat → List Value} {blk off cap a b n : Nat} {d0 d : Array Nat} {w0 w : World} (R : RowK enc K w0 blk off d0) (hs : d0.size = d.size) (S : SWK enc K w0 blk off d w) (hab : a + n ≤ b) (hb : b + n ≤ d.size) (hsz : d.size < 4611686018427387904) (fv : Value) :
    Calls Try.prog 174 #[.slice (some ⟨blk, off, none⟩) d.size cap, .int .i64 a, .int .i64 b, .int .i64 n, fv] w fun e w' => e = .returned (.tuple #[]) ∧ ∃ d', Swr a b n d d' ∧ SWK enc K w0 blk off d' w' := by
  have S0 : Aside (SWK enc K w0 blk off d w) := S
  clear S
  go_enter Try.func174, Try.ntmps174
  go_wp2
  go_loopg [10] n (fun kx s10 wr => ∃ (i : Nat) (dk : Array Nat), s10 = .int .i64 i ∧ i ≤ n ∧ kx = n - i ∧ Hid (Swr a b i d dk) ∧ Aside (SWK enc K w0 blk off dk wr))
  case atStart => exact ⟨0, d, rfl, Nat.zero_le _, rfl, Swr.zero a b d, S0⟩
  case round =>
    clear S0
    obtain ⟨i, dk, rfl, hi, rfl, HW, S1⟩ := hrel
    by_cases hlt : i < n
    · have hltz : (i : Int) < (n : Int) := by omega
      have hdz : Hid (dk.size = d.size) := HW.size
      go_wp2_with fail
      obtain ⟨iN, hiN⟩ : ∃ q, q = a + i := ⟨_, rfl⟩
      obtain ⟨jN, hjN⟩ : ∃ q, q = b + i := ⟨_, rfl⟩
      have ea1 : ((a : Int) + (i : Int)).toNat = iN := by omega
      have pa1 : (0 : Int) ≤ (a : Int) + (i : Int) := by omega
      have ba1 : (a : Int) + (i : Int) < (d.size : Int) := by omega
      have ra1 : IntKind.i64.wrap ((a : Int) + (i : Int)) = (a : Int) + (i : Int) := by rw [IntKind.wrap_i64]; omega
      have ec1 : ((b : Int) + (i : Int)).toNat = jN := by omega
      have pc1 : (0 : Int) ≤ (b : Int) + (i : Int) := by omega
      have bc1 : (b : Int) + (i : Int) < (d.size : Int) := by omega
      have rc1 : IntKind.i64.wrap ((b : Int) + (i : Int)) = (b : Int) + (i : Int) := by rw [IntKind.wrap_i64]; omega
      have hiL : a + i < dk.size := by rw [hdz.out]; omega
      have hjL : b + i < dk.size := by rw [hdz.out]; omega
      have sz0 : dk.size = d0.size := by rw [hdz.out, hs]
      obtain ⟨x1, hx1⟩ : ∃ x, x = enc dk[a + i]! := ⟨_, rfl⟩
      obtain ⟨y1, hy1⟩ : ∃ x, x = enc dk[b + i]! := ⟨_, rfl⟩
      have l1 := S1.out.ld1 R sz0 Try.prog (a + i) hiL
      have l2 := S1.out.ld1 R sz0 Try.prog (b + i) hjL
      have s1 := S1.out.st1 R sz0 Try.prog (a + i) hiL dk[b + i]!
      have s2 := S1.out.st2 R sz0 Try.prog (a + i) (b + i) hiL hjL dk[b + i]! dk[a + i]!
      have S2 : Aside _ := S1.out.swapped R (a + i) (b + i) hiL hjL
      have sx : x1.length = K := by rw [hx1]; exact R.hk _
      have sy : y1.length = K := by rw [hy1]; exact R.hk _
      rw [← hx1, ← hiN] at l1
      rw [← hy1, ← hjN] at l2
      rw [← hy1, ← hiN] at s1
      rw [← hx1, ← hy1, ← hiN, ← hjN] at s2
      have S3 : Aside (SWK enc K w0 blk off (swp dk (a + i) (b + i)) ((wr.drew.setCells blk (off + iN * K) y1).setCells blk (off + jN * K) x1)) := by rw [hiN, hjN, hx1, hy1]; exact S2
      clear S1 S2 hx1 hy1 hiN hjN hiL hjL sz0
      have aE := isAggS
      go_wp2_with fail
      go_big_region
      clear l1 l2 s1 s2
      generalize (wr.drew.setCells blk (off + iN * K) y1).setCells blk (off + jN * K) x1 = w2 at S3 ⊢
      clear ea1 ec1
      go_wp2
      go_roundg (n - (i + 1))
      case measure => omega
      case rel => exact ⟨i + 1, _, by go_num, by omega, rfl, HW.out.step (by omega) (by omega), S3⟩
    · have hltz : ¬ (i : Int) < (n : Int) := by omega
      obtain rfl : i = n := by omega
      go_wp2
      go_end0
      exact ⟨rfl, dk, HW.out, S1.out⟩

set_option maxHeartbeats 4000000 in
set_option maxRecDepth 1000000 in
theorem rotS_any {K : Nat} (zE : ∀ w, (Go.sizeOf 108).run Try.prog w = .ok K w) {enc : Nat → List Value} {blk off cap a m b : Nat} {d0 d : Array Nat} {w0 w : World} (R : RowK enc K w0 blk off d0) (hs : d0.size = d.size) (S : SWK enc K w0 blk off d w) (ham : a < m) (hmb : m < b) (hb : b ≤ d.size) (hsz : d.size < 4611686018427387904) (g : Nat) (cb : Array Value) :
    Calls Try.prog 162 #[.slice (some ⟨blk, off, none⟩) d.size cap, .int .i64 a, .int .i64 m, .int .i64 b, .func (.func g) #[] cb] w fun e w' => e = .returned (.tuple #[]) ∧ ∃ d', Rot a m b d d' ∧ SWK enc K w0 blk off d' w' := by
  have S0 : Aside (SWK enc K w0 blk off d w) := S
  clear S
  have hij0 : (b : Int) - (m : Int) = ((b - m : Nat) : Int) := by omega
  have hij1 : (m : Int) - (a : Int) = ((m - a : Nat) : Int) := by omega
  have H0 := Lib.hid hij0; have H1 := Lib.hid hij1
  clear hij0 hij1
  go_enter Try.func162, Try.ntmps162
  go_wp2
  go_loopg [10, 11] (m + b) (fun kx s10 s11 wr => ∃ (i j : Nat) (dk : Array Nat), s10 = .int .i64 i ∧ s11 = .int .i64 j ∧ 0 < i ∧ 0 < j ∧ i ≤ m - a ∧ j ≤ b - m ∧ i + j ≤ kx ∧ Hid (RotI a m b i j d dk) ∧ Aside (SWK enc K w0 blk off dk wr))
  case atStart => exact ⟨m - a, b - m, d, by rw [H1.out], by rw [H0.out], by omega, by omega, Nat.le_refl _, Nat.le_refl _, by omega, RotI.start d (by omega) (by omega), S0⟩
  case round =>
    clear S0
    obtain ⟨i, j, dk, rfl, rfl, hi, hj, him, hjm, hkx, HW, S1⟩ := hrel
    have hdz : Hid (dk.size = d.size) := HW.out.size
    have HKX := Lib.hid hkx; clear hkx
    by_cases heq : i = j
    · subst heq
      have hc : Calls Try.prog 174 #[.slice (some ⟨blk, off, none⟩) d.size cap, .int .i64 ((m - i : Nat) : Int), .int .i64 m, .int .i64 i, .func (.func g) #[] cb] wr fun e w' => e = .returned (.tuple #[]) ∧ ∃ d', Swr (m - i) m i dk d' ∧ SWK enc K w0 blk off d' w' := by
        rw [← hdz.out]
        exact swrS_any zE R (by rw [hdz.out, hs]) S1.out (by omega) (by rw [hdz.out]; omega) (by rw [hdz.out]; exact hsz) _
      have e1 : ((m - i : Nat) : Int) = (m : Int) - (i : Int) := by omega
      rw [e1] at hc
      have HC := Lib.hid hc
      clear hc e1 S1
      go_wp2_with fail
      refine HC.out.mono ?_
      rintro e w2 ⟨rfl, d2, hsw, S2⟩
      have HF := Lib.hid (HW.out.done him hjm (by omega) (by omega) hsw)
      have HS2 := Lib.hid S2
      clear hsw S2
      go_wp2
      go_end0
      exact ⟨rfl, d2, HF.out, HS2.out⟩
    · have hne : ((i : Int) == (j : Int)) = false := by simp; omega
      by_cases hgt : j < i
      · have hgz : (j : Int) < (i : Int) := by omega
        have hc : Calls Try.prog 174 #[.slice (some ⟨blk, off, none⟩) d.size cap, .int .i64 ((m - i : Nat) : Int), .int .i64 m, .int .i64 j, .func (.func g) #[] cb] wr fun e w' => e = .returned (.tuple #[]) ∧ ∃ d', Swr (m - i) m j dk d' ∧ SWK enc K w0 blk off d' w' := by
          rw [← hdz.out]
          exact swrS_any zE R (by rw [hdz.out, hs]) S1.out (by omega) (by rw [hdz.out]; omega) (by rw [hdz.out]; exact hsz) _
        have e1 : ((m - i : Nat) : Int) = (m : Int) - (i : Int) := by omega
        rw [e1] at hc
        have HC := Lib.hid hc
        clear hc e1 S1 heq
        go_wp2_with fail
        refine HC.out.mono ?_
        rintro e w2 ⟨rfl, d2, hsw, S2⟩
        have HF := Lib.hid (HW.out.gt him hjm (by omega) (by omega) hgt hsw)
        have HS2 : Aside (SWK enc K w0 blk off d2 w2) := S2
        clear hsw S2
        go_wp2
        go_roundg (i - j + j)
        case measure => have := HKX.out; omega
        case rel => exact ⟨i - j, j, d2, by (congr 1; omega), rfl, by omega, hj, by omega, hjm, Nat.le_refl _, HF.out, HS2⟩
      · have hgz : ¬ (j : Int) < (i : Int) := by omega
        have hc : Calls Try.prog 174 #[.slice (some ⟨blk, off, none⟩) d.size cap, .int .i64 ((m - i : Nat) : Int), .int .i64 ((m + j - i : Nat) : Int), .int .i64 i, .func (.func g) #[] cb] wr fun e w' => e = .returned (.tuple #[]) ∧ ∃ d', Swr (m - i) (m + j - i) i dk d' ∧ SWK enc K w0 blk off d' w' := by
          rw [← hdz.out]
          exact swrS_any zE R (by rw [hdz.out, hs]) S1.out (by omega) (by rw [hdz.out]; omega) (by rw [hdz.out]; exact hsz) _
        have e1 : ((m - i : Nat) : Int) = (m : Int) - (i : Int) := by omega
        have e2 : ((m + j - i : Nat) : Int) = (m : Int) + (j : Int) - (i : Int) := by omega
        rw [e1, e2] at hc
        have HC := Lib.hid hc
        have hlt : i < j := by omega
        clear hc e1 e2 S1 heq
        go_wp2_with fail
        refine HC.out.mono ?_
        rintro e w2 ⟨rfl, d2, hsw, S2⟩
        have HF := Lib.hid (HW.out.lt him hjm (by omega) (by omega) hlt hsw)
        have HS2 : Aside (SWK enc K w0 blk off d2 w2) := S2
        clear hsw S2
        go_wp2
        go_roundg (i + (j - i))
        case measure => have := HKX.out; omega
        case rel => exact ⟨i, j - i, d2, rfl, by (congr 1; omega), hi, by omega, him, by omega, Nat.le_refl _, HF.out, HS2⟩
end Go.Proofs.Ytgnigkghkldcfaa
