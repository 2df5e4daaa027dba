/-
  code.Writer.Num.
-/
import Derived.Test.YtlajejbglpggeaaCode1
namespace Go.Proofs.Ytlajejbglpggeaa
open Go.RowKit Go.Proofs Go.Lib

set_option maxRecDepth 100000 in
set_option maxHeartbeats 2000000 in
theorem wnum_any {w : World} {wb base : Nat} {l : Bs} (h : WrAt w wb base l) (n : Nat) (hn : n < 18446744073709551616) (size : Int) (hl : l.length ≤ 100000000000000) :
    Calls Try.prog 50 #[.pointer (some ⟨wb, 0, none⟩), .int .u64 n, .int .i64 size] w (WrPost wb base (l ++ leB (heldB size).toNat n) w) := by
  obtain ⟨i0, hi, hz0, hz1, hz2⟩ := info_parts info_byte
  obtain ⟨k, hk, hk8⟩ : ∃ k : Nat, heldB size = k ∧ k ≤ 8 := ⟨(heldB size).toNat, by have := heldB_in size; omega, by have := heldB_in size; omega⟩
  have HH := Lib.hid (fun W => held_cd size W)
  rw [hk] at HH ⊢
  rw [Int.toNat_natCast]
  have H := Lib.hid h
  clear h hk
  go_enter Try.func50, Try.ntmps50
  go_wp2_with fail
  refine (HH.out _).mono ?_
  rintro e w1 ⟨rfl, rfl⟩
  go_wp2
  go_loopg [1, 8] k (fun g v1 v8 wr => ∃ i : Nat, i ≤ k ∧ g = k - i ∧ v8 = .int .i64 i ∧ v1 = .int .u64 (n / 256 ^ i : Nat) ∧ Hid (WrAt wr wb base (l ++ leB i n)) ∧ Hid (Keep (fun x => base ≤ x) w wr))
  case atStart => exact ⟨0, Nat.zero_le _, rfl, rfl, by simp, Lib.hid (by simpa [leB] using H.out), Lib.hid (Keep.refl _ _)⟩
  case round =>
    obtain ⟨i, hik, hg, rfl, rfl, HW, HK⟩ := hrel
    by_cases hlt : i < k
    · obtain ⟨v, h1, ho, h3, h4⟩ := HW.out
      have hc := cell_blk h1 0
      simp at hc
      have hwl := lt_blk h1
      obtain ⟨m, hm⟩ : ∃ m, m = n / 256 ^ i := ⟨_, rfl⟩
      have hm2 : m < 18446744073709551616 := by rw [hm]; exact Nat.lt_of_le_of_lt (Nat.div_le_self _ _) hn
      rw [← hm]
      obtain ⟨L, hL⟩ : ∃ L, L = l ++ leB i n := ⟨_, rfl⟩
      have hLl : L.length ≤ 100000000000010 := by rw [hL, List.length_append, leB_length]; omega
      rw [← hL] at ho
      have HM := Lib.hid hm; have HL := Lib.hid hL
      have H1 := Lib.hid h1; have HO := Lib.hid ho; have H3 := Lib.hid h3
      have HG := Lib.hid hg
      clear h1 ho h3 hm hL hg HW
      have N1 := Lib.hid (show L.length + 1 ≤ maxLen by unfold maxLen; omega)
      have N2 := Lib.hid (show (L.length + 1) * 1 ≤ 140737488355328 by omega)
      have N3 := Lib.hid (show base ≤ (wr.alloc (.cells #[.int .u8 ((m : Int) % 256)] 5)).heap.size by simp; omega)
      have H1a := Lib.hid (alloc_blk H1.out (.cells #[.int .u8 ((m : Int) % 256)] 5))
      have HKa := Lib.hid (HK.out.alloc (.cells #[.int .u8 ((m : Int) % 256)] 5))
      go_wp2_with (at_builtin; refine wpList_append_sl rfl (.tmp 14) (.tmp 17) 27 rfl base 5 i0 _ 1 1 Try.underlying27 hi hz0 hz1 hz2 rfl (by decide) v L.length (bytesV L) rfl (HO.out.alloc _) _ 1 [.int .u8 ((m : Int) % 256)] rfl (sl_made wr 1 1 #[.int .u8 ((m : Int) % 256)] 5 rfl (by decide)) (by intro u hu; simp at hu; subst hu; rfl) N1.out N2.out N3.out ?_; intro v' W' hown' hk' hb'; obtain ⟨va, vc, rfl⟩ := own_slice hown'; have hw' : W'.heap[wb]? = some (.cells #[v] 88 (0, 0)) := hk'.heap H1a.out (fun e => H3.out wb e rfl); have c0 := cell_blk hw' 0; have f0 := frozen_blk hw' 0; simp at c0; have HW' := Lib.hid hw'; have HO' := Lib.hid hown'; have HK' := Lib.hid hk'; have HB' := Lib.hid hb'; clear hw' hown' hk' hb')
      go_roundg (k - (i + 1))
      case measure => have := HG.out; omega
      case rel =>
        have hset := set_blk HW'.out 0 (.slice va (L.length + 1) vc)
        simp at hset
        have hsz : wb < (wr.alloc (.cells #[.int .u8 ((m : Int) % 256)] 5)).heap.size := lt_blk H1a.out
        have hne : ∀ x, vblk (.slice va (L.length + 1) vc) = some x → x ≠ wb := fun x e => by
          rcases HB'.out x e with h | h
          · exact H3.out x h
          · omega
        have hs : l ++ leB (i + 1) n = L ++ [UInt8.ofNat m] := by rw [leB_snoc, ← HM.out, ← List.append_assoc, ← HL.out]
        have hd : n / 256 ^ (i + 1) = m / 256 := by rw [Nat.pow_succ, ← Nat.div_div_eq_div_mul, ← HM.out]
        refine ⟨i + 1, by omega, rfl, by go_num, by rw [hd]; rfl, Lib.hid ?_, Lib.hid ?_⟩
        · rw [hs]
          refine ⟨_, hset, ?_, hne, h4⟩
          have e1 : (L ++ [UInt8.ofNat m]).length = L.length + 1 := by simp
          have e2 : bytesV (L ++ [UInt8.ofNat m]) = bytesV L ++ [.int .u8 ((m : Int) % 256)] := by simp [bytesV]
          rw [e1, e2]
          obtain ⟨a, b⟩ := HO'.out
          refine ⟨a, ?_⟩
          rcases b with b | ⟨g, cap, cur, ev, hg, hh, r⟩
          · exact .inl b
          · exact .inr ⟨g, cap, cur, ev, hg, set_other hh (hne g (by simp_all [vblk])) _, r⟩
        · exact (HKa.out.trans' HK'.out (fun _ _ e => e) (fun j _ e => (Sl.of_owns HO.out).2 j e)).setCell (fun _ => h4) _
    · have hik2 : i = k := by omega
      subst hik2
      go_wp2
      go_end0
      exact ⟨rfl, HW.out, HK.out⟩
end Go.Proofs.Ytlajejbglpggeaa
