/-
  seal.Sum: the sum of bytes.
-/
import Derived.Test.YtlajejbglpggeaaCode3
import Derived.Test.YtlajejbglpggeaaCode2
namespace Go.Proofs.Ytlajejbglpggeaa
open Go.RowKit Go.Proofs Go.Lib

def crc1 (n : Nat) : Nat := n / 2 ^^^ (if n % 2 = 1 then 2197175160 else 0)
def crcN : Nat → Nat → Nat
  | 0, n => n
  | k + 1, n => crc1 (crcN k n)
def crcByte (n : Nat) (c : UInt8) : Nat := crcN 8 (n ^^^ c.toNat)
def crcFold (l : Bs) : Nat := l.foldl crcByte 4294967295
def crcB (l : Bs) : Nat := 4294967295 - crcFold l

theorem crc1_lt {n : Nat} (h : n < 4294967296) : crc1 n < 4294967296 := by
  unfold crc1
  exact Nat.xor_lt_two_pow (n := 32) (by omega) (by split <;> omega)
theorem crcN_lt {n : Nat} (h : n < 4294967296) : ∀ k, crcN k n < 4294967296
  | 0 => h
  | k + 1 => crc1_lt (crcN_lt h k)
theorem crcByte_lt {n : Nat} (h : n < 4294967296) (c : UInt8) : crcByte n c < 4294967296 :=
  crcN_lt (Nat.xor_lt_two_pow (n := 32) (by omega) (by have := c.toNat_lt; omega)) 8
theorem crcFold_lt' : ∀ (l : Bs) (n : Nat), n < 4294967296 → l.foldl crcByte n < 4294967296
  | [], _, h => h
  | c :: r, n, h => crcFold_lt' r _ (crcByte_lt h c)
theorem crcFold_lt (l : Bs) : crcFold l < 4294967296 := crcFold_lt' l _ (by decide)
theorem crcB_lt (l : Bs) : crcB l < 4294967296 := by have := crcFold_lt l; unfold crcB; omega
theorem crcFold_snoc (l : Bs) (c : UInt8) : crcFold (l ++ [c]) = crcByte (crcFold l) c := by unfold crcFold; rw [List.foldl_append]; rfl

theorem ones_xor (y : Nat) (h : y < 4294967296) : 4294967295 ^^^ y = 4294967295 - y := by
  have h1 := congrArg BitVec.toNat (BitVec.allOnes_xor (x := BitVec.ofNat 32 y))
  rw [BitVec.toNat_xor, BitVec.toNat_allOnes, BitVec.toNat_not, BitVec.toNat_ofNat, Nat.mod_eq_of_lt h] at h1
  exact h1
theorem crc_step (n : Nat) (h : n < 4294967296) : bits .xor .u32 ((n : Int) / 2) (bits .and .u32 2197175160 (-(bits .and .u32 (n : Int) 1) % 4294967296)) = ((crc1 n : Nat) : Int) := by
  have e1 : bits .and .u32 (n : Int) 1 = ((n % 2 : Nat) : Int) := by
    have := u32_and_nat n 1 h (by decide)
    rw [Nat.and_one_is_mod] at this
    exact this
  have e2 : -((n % 2 : Nat) : Int) % 4294967296 = ((if n % 2 = 1 then 4294967295 else 0 : Nat) : Int) := by
    split <;> omega
  have e3 : bits .and .u32 2197175160 (((if n % 2 = 1 then 4294967295 else 0 : Nat) : Int)) = ((if n % 2 = 1 then 2197175160 else 0 : Nat) : Int) := by
    by_cases hn : n % 2 = 1
    · rw [if_pos hn, if_pos hn]; exact u32_and_nat 2197175160 4294967295 (by decide) (by decide)
    · rw [if_neg hn, if_neg hn]; exact u32_and_nat 2197175160 0 (by decide) (by decide)
  rw [e1, e2, e3]
  have e4 : (n : Int) / 2 = ((n / 2 : Nat) : Int) := by omega
  rw [e4, u32_xor_nat _ _ (by omega) (by split <;> omega)]
  rfl

set_option maxRecDepth 100000 in
set_option maxHeartbeats 2000000 in
theorem sum_any {w : World} {v : Value} {l : Bs} (hb : BytesAt w v l) : Calls Try.prog 66 #[v] w fun e w' => e = .returned (.int .u32 (crcB l)) ∧ w = w' := by
  obtain ⟨va, vc, rfl⟩ : ∃ a c, v = .slice a l.length c := let ⟨_, a, c, e, _⟩ := hb; ⟨a, c, e⟩
  have hml : l.length ≤ maxLen := by obtain ⟨_, a, c, e, h1, h2, _⟩ := hb; cases e; omega
  obtain ⟨k, hk⟩ : ∃ k, k = l.length := ⟨_, rfl⟩
  have HB := Lib.hid hb
  rw [← hk] at HB hml ⊢
  have HK := Lib.hid hk
  unfold maxLen at hml
  clear hb hk
  go_enter Try.func66, Try.ntmps66
  go_wp2
  go_loop [3, 8] (fun v3 v8 => ∃ i : Nat, i ≤ k ∧ v8 = .int .i64 i ∧ v3 = .int .u32 (crcFold (l.take i))) (fun _ v8 => k - (intOf v8).toNat)
  case atStart => exact ⟨0, Nat.zero_le _, rfl, rfl⟩
  case round =>
    obtain ⟨i, hi, rfl, rfl⟩ := hrel
    by_cases hlt : i < k
    · obtain ⟨x, hx⟩ : ∃ x, l[i]? = some x := ⟨_, List.getElem?_eq_getElem (by rw [← HK.out]; exact hlt)⟩
      obtain ⟨b, o, c2, ev, _, _⟩ := Sl.base HB.out (by rw [← HK.out]; omega)
      simp only [Value.slice.injEq] at ev
      obtain ⟨rfl, -, -⟩ := ev
      have c0 := bytesAt_at HB.out hx
      have hsn : l.take (i + 1) = l.take i ++ [x] := by rw [List.take_add_one, hx]; rfl
      have hnx := crcFold_snoc (l.take i) x
      rw [← hsn] at hnx
      have hlt2 := crcFold_lt (l.take i)
      obtain ⟨y, hy⟩ : ∃ y, y = crcFold (l.take i) := ⟨_, rfl⟩
      rw [← hy] at hnx hlt2 ⊢
      have hx2 := x.toNat_lt
      have hz2 : y ^^^ x.toNat < 4294967296 := Nat.xor_lt_two_pow (n := 32) (by omega) (by omega)
      have hxo := u32_xor_nat y x.toNat hlt2 (by omega)
      obtain ⟨z, hz⟩ : ∃ z, z = y ^^^ x.toNat := ⟨_, rfl⟩
      unfold crcByte at hnx
      rw [← hz] at hxo hz2 hnx
      have HNX := Lib.hid hnx
      have HLT := Lib.hid hlt
      have HZ2 := Lib.hid hz2
      clear hnx hx hsn hy hlt2 hz hz2
      go_wp2
      go_loop [3, 16] (fun v3 v16 => ∃ j : Nat, j ≤ 8 ∧ v16 = .int .i64 j ∧ v3 = .int .u32 (crcN j z)) (fun _ v16 => 8 - (intOf v16).toNat)
      case atStart => exact ⟨0, Nat.zero_le _, rfl, rfl⟩
      case round =>
        obtain ⟨j, hj, rfl, rfl⟩ := hrel
        by_cases hlt2 : j < 8
        · have HC := Lib.hid (crc_step (crcN j z) (crcN_lt HZ2.out j))
          have hq := crcN_lt HZ2.out j
          obtain ⟨q, hq1⟩ : ∃ q, q = crcN j z := ⟨_, rfl⟩
          have HS := Lib.hid (show crcN (j + 1) z = crc1 q from by rw [hq1]; rfl)
          rw [← hq1] at HC hq ⊢
          clear hq1
          go_wp2
          go_round
          case rel => exact ⟨j + 1, by omega, by go_num, by rw [HS.out, ← HC.out]⟩
          case measure => simp [intOf]; omega
        · obtain rfl : j = 8 := by omega
          clear hlt2
          go_wp2
          go_round
          case rel => exact ⟨i + 1, HLT.out, by go_num, by rw [HNX.out]⟩
          case measure => have := HLT.out; simp [intOf]; omega
    · have hik : i = k := by omega
      subst hik
      have hcl := crcFold_lt l
      have ht : l.take i = l := List.take_of_length_le (by have := HK.out; omega)
      rw [ht]
      have HCB := Lib.hid (show crcB l = 4294967295 - crcFold l from rfl)
      obtain ⟨y, hy⟩ : ∃ y, y = crcFold l := ⟨_, rfl⟩
      rw [← hy] at hcl HCB ⊢
      clear hy ht
      go_wp2
      go_ret
      refine ⟨?_, rfl⟩
      simp
      rw [HCB.out, show IntKind.u32.max = ((4294967295 : Nat) : Int) from by decide, u32_xor_nat 4294967295 y (by decide) hcl, ones_xor y hcl]

/-! seal.Seal, seal.Unseal -/
def sealB (kind : UInt8) (b : Bs) : Bs := kind :: b ++ leB 4 (crcB (kind :: b))
theorem sealB_length (kind : UInt8) (b : Bs) : (sealB kind b).length = b.length + 5 := by simp [sealB, leB_length]
theorem heldB_small (k : Int) (h1 : 1 ≤ k) (h2 : k ≤ 8) : heldB k = k := by unfold heldB; omega

set_option maxRecDepth 100000 in
set_option maxHeartbeats 1000000 in
theorem seal_any {w : World} (kind : UInt8) {v : Value} {l : Bs} (hb : BytesAt w v l) (hl : l.length ≤ 10000000000000) :
    Calls Try.prog 51 #[.int .u8 (kind.toNat : Int), v] w (FreshB (sealB kind l) w) := by
  obtain ⟨va, vc, rfl⟩ : ∃ a c, v = .slice a l.length c := let ⟨_, a, c, e, _⟩ := hb; ⟨a, c, e⟩
  have ka := (Keep.refl (fun _ => False) w).alloc (.cells #[.slice none 0 0] 88)
  have hw0 := WrAt.new w
  have KA := Lib.hid ka
  have hb1 : BytesAt (w.alloc (.cells #[.slice none 0 0] 88)) (.slice va l.length vc) l := Sl.keep hb ka (fun _ _ _ e => e)
  obtain ⟨W0, hW0⟩ : ∃ W, W = w.alloc (.cells #[.slice none 0 0] 88) := ⟨_, rfl⟩
  have hz0 : W0.heap.size = w.heap.size + 1 := by rw [hW0]; simp
  rw [← hW0] at hw0 hb1 KA
  have HW0 := Lib.hid hW0; have HWR := Lib.hid hw0; have HB1 := Lib.hid hb1; have HB := Lib.hid hb
  obtain ⟨B, hB⟩ : ∃ B, B = w.heap.size := ⟨_, rfl⟩
  rw [← hB] at HWR hz0
  have HBB := Lib.hid hB; have HZ0 := Lib.hid hz0
  obtain ⟨n, hn⟩ : ∃ n, n = l.length := ⟨_, rfl⟩
  have HN := Lib.hid hn
  rw [← hn] at HB1 HB hl ⊢
  clear hb ka hw0 hb1 hW0 hB hn hz0
  go_enter Try.func51, Try.ntmps51
  go_wp2_with fail
  rw [← HW0.out, show w.heap.size + 1 = W0.heap.size from by rw [HW0.out]; simp, ← HBB.out]
  have k1 := (Keep.refl (fun _ => False) W0).alloc (.cells #[.int .u8 (kind.toNat : Int)] 5)
  have hs1 : BytesAt (W0.alloc (.cells #[.int .u8 (kind.toNat : Int)] 5)) (.slice (some ⟨W0.heap.size, 0, none⟩) 1 1) [kind] := sl_made W0 1 1 #[.int .u8 (kind.toNat : Int)] 5 rfl (by decide)
  refine (wraw_any (HWR.out.keep k1 (fun _ _ e => e)) _ [kind] hs1 (by simp)).mono ?_
  rintro e w1 ⟨rfl, hw1, kk1⟩
  have hB0 := HBB.out
  have hB1 : BytesAt w1 (.slice va n vc) l := Sl.keep HB1.out (k1.trans' kk1 (fun _ _ e => e.elim) (fun _ _ e => e)) (fun b hb e e2 => by have := Sl.lt HB.out (by decide) hb e; omega)
  have K1 := Lib.hid (KA.out.trans' (k1.trans' kk1 (fun _ _ e => e.elim) (fun _ _ e => e)) (H := fun x => B ≤ x) (fun _ _ e => e.elim) (fun _ _ e => e))
  have HW1 := Lib.hid hw1; have HB1' := Lib.hid hB1
  clear hw1 hB1 k1 kk1 hs1 hB0
  go_wp2_with fail
  refine (wraw_any HW1.out _ l HB1'.out (by have := HN.out; simp; omega)).mono ?_
  rintro e w2 ⟨rfl, hw2, kk2⟩
  have K2 := Lib.hid (K1.out.trans kk2)
  have HW2 := Lib.hid hw2
  clear hw2 kk2
  have el : [] ++ [kind] ++ l = kind :: l := rfl
  rw [el] at HW2
  clear el
  go_wp2_with fail
  refine (wdone_any HW2.out (by have := HN.out; simp; omega)).mono ?_
  rintro e w3 ⟨v3, rfl, ho3, hbl3⟩
  have k3 : Keep (fun _ => False) w2 w3 := Keep.of_below hbl3 _
  have HW3 := Lib.hid (HW2.out.keep k3 (fun _ _ e => e))
  have K3 := Lib.hid (K2.out.trans' k3 (H := fun x => B ≤ x) (fun _ _ e => e) (fun _ _ e => e.elim))
  have HS3 := Lib.hid (Sl.of_owns ho3).1
  obtain ⟨a3, c3, rfl⟩ := own_slice ho3
  clear ho3 hbl3 k3
  go_wp2_with fail
  refine (sum_any HS3.out).mono ?_
  rintro e w4 ⟨rfl, rfl⟩
  have hcl := crcB_lt (kind :: l)
  obtain ⟨s, hs⟩ : ∃ s, s = crcB (kind :: l) := ⟨_, rfl⟩
  rw [← hs] at hcl ⊢
  have HS := Lib.hid hs
  clear hs
  go_wp2_with fail
  refine (wnum_any HW3.out s (by omega) 4 (by have := HN.out; simp; omega)).mono ?_
  rintro e w5 ⟨rfl, hw5, kk5⟩
  have e4 : (kind :: l) ++ leB (heldB 4).toNat s = sealB kind l := by rw [heldB_small 4 (by decide) (by decide), HS.out]; rfl
  rw [e4] at hw5
  have HW5 := Lib.hid hw5; have K5 := Lib.hid (K3.out.trans kk5)
  clear hw5 kk5 e4
  go_wp2_with fail
  refine (wdone_any HW5.out (by have := HN.out; rw [sealB_length]; omega)).mono ?_
  rintro e w6 ⟨v6, rfl, ho6, hbl6⟩
  have k6 : Keep (fun _ => False) w5 w6 := Keep.of_below hbl6 _
  have hb0 := HBB.out
  have hz := K5.out.size
  have hfin : w6.ownsRow w.heap.size 5 1 v6 (sealB kind l).length (bytesV (sealB kind l)) ∧ Below w.heap.size w w6 := by
    refine ⟨?_, (K5.out.trans' k6 (H := fun x => B ≤ x) (fun _ _ e => e) (fun _ _ e => e.elim)).below (fun j hj e => by omega) (Nat.le_refl _)⟩
    obtain ⟨x, y⟩ := ho6
    refine ⟨x, ?_⟩
    rcases y with y | ⟨g, cap, cur, ev, hg, r⟩
    · exact .inl y
    · exact .inr ⟨g, cap, cur, ev, by omega, r⟩
  have HFIN := Lib.hid hfin
  obtain ⟨a6, c6, rfl⟩ := own_slice ho6
  clear hfin ho6 hbl6 k6 hb0 hz
  go_wp2
  go_ret
  exact ⟨_, rfl, HFIN.out⟩
end Go.Proofs.Ytlajejbglpggeaa
