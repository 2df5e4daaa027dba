/-
  lock.Name, lock.Parse.
-/
import Derived.Test.YtlajejbglpggeaaSeal2
namespace Go.Proofs.Ytlajejbglpggeaa
open Go.RowKit Go.Proofs Go.Lib

/-- a digit -/
def hexD (n : Nat) : UInt8 := if n < 10 then UInt8.ofNat (48 + n) else UInt8.ofNat (87 + n)
/-- k digits, the highest first -/
def hexB : Nat → Nat → Bs
  | 0, _ => []
  | k + 1, n => hexD (n / 16 ^ k % 16) :: hexB k n
theorem hexB_length : ∀ (k n : Nat), (hexB k n).length = k
  | 0, _ => rfl
  | k + 1, n => by simp [hexB, hexB_length k]
def lockP : Bs := [108, 111, 99, 107, 47]
def nameB (who : Nat) : Bs := lockP ++ hexB 16 who
theorem nameB_length (who : Nat) : (nameB who).length = 21 := by simp [nameB, lockP, hexB_length]

theorem shr_and (n i : Nat) (hn : n < 18446744073709551616) : bits .and .u64 ((n : Int) / 2 ^ (4 * i)) 15 = ((n / 16 ^ i % 16 : Nat) : Int) := by
  have e : (16 : Nat) ^ i = 2 ^ (4 * i) := by rw [Nat.pow_mul]
  have e2 : (n : Int) / 2 ^ (4 * i) = ((n / 16 ^ i : Nat) : Int) := by rw [e]; push_cast; rfl
  rw [e2]
  have h := u64_and_nat (n / 16 ^ i) 15 (Nat.lt_of_le_of_lt (Nat.div_le_self _ _) hn) (by decide)
  rw [show (15 : Nat) = 2 ^ 4 - 1 from rfl, Nat.and_two_pow_sub_one_eq_mod] at h
  exact h

theorem digit_at : ∀ d : Fin 16, (⟨#[48, 49, 50, 51, 52, 53, 54, 55, 56, 57, 97, 98, 99, 100, 101, 102]⟩ : ByteArray)[d.val]'(d.isLt) = hexD d.val := by decide
theorem hex_set (i who d : Nat) (hd : d = who / 16 ^ i % 16) (hi : i < 16) (hd16 : d < 16) :
    (List.replicate (16 - i) (Value.int .u8 0) ++ bytesV (hexB i who)).toArray.setIfInBounds (15 - i) (.int .u8 (((⟨#[48, 49, 50, 51, 52, 53, 54, 55, 56, 57, 97, 98, 99, 100, 101, 102]⟩ : ByteArray)[d]'hd16).toNat : Int)) = (List.replicate (16 - (i + 1)) (Value.int .u8 0) ++ bytesV (hexB (i + 1) who)).toArray := by
  rw [digit_at ⟨d, hd16⟩]
  rw [List.setIfInBounds_toArray]
  congr 1
  rw [show 16 - i = (15 - i) + 1 from by omega, show 16 - (i + 1) = 15 - i from by omega, List.replicate_succ', List.append_assoc, List.set_append_right _ _ (by simp)]
  simp only [List.length_replicate, Nat.sub_self, List.singleton_append, List.set_cons_zero]
  congr 1
  subst hd
  simp [bytesV, hexB]

set_option maxRecDepth 100000 in
set_option maxHeartbeats 2000000 in
theorem lkname_any (who : Nat) (hw : who < 18446744073709551616) (w : World) : Calls Try.prog 8 #[.int .u64 who] w fun e w' => e = .returned (strV (nameB who)) ∧ Keep (fun _ => False) w w' := by
  go_enter Try.func8, Try.ntmps8
  go_wp2
  go_loopg [5] 16 (fun g v5 wr => ∃ i : Nat, i ≤ 16 ∧ g = 16 - i ∧ v5 = .int .i64 i ∧ Hid (wr.heap[w.heap.size]? = some (.cells ((List.replicate (16 - i) (Value.int .u8 0) ++ bytesV (hexB i who)).toArray) 51 (0, 0))) ∧ Hid (Keep (fun _ => False) w wr))
  case atStart => exact ⟨0, by omega, rfl, rfl, Lib.hid (by first | exact alloc_new _ _ | (rw [alloc_new]; rfl)), Lib.hid ((Keep.refl _ w).alloc _)⟩
  case round =>
    obtain ⟨i, hi, hg, rfl, HB, HK⟩ := hrel
    by_cases hlt : i < 16
    · have hsa := shr_and who i hw
      obtain ⟨d, hd⟩ : ∃ d, d = who / 16 ^ i % 16 := ⟨_, rfl⟩
      have hd16 : d < 16 := by omega
      rw [← hd] at hsa
      have HD := Lib.hid hd
      have HG := Lib.hid hg
      have hlt' : (i : Int) < 16 := by omega
      have h15 : (15 : Int) - i = ((15 - i : Nat) : Int) := by omega
      have hl15 : 15 - i < 16 := by omega
      have c0 : wr.cell? ⟨w.heap.size, 15 - i, none⟩ = some (.int .u8 0) := by
        rw [cell_blk HB.out]
        simp only [List.getElem?_toArray]
        rw [List.getElem?_append_left (by simp; omega), List.getElem?_replicate, if_pos (by omega)]
      have f0 : wr.frozen? ⟨w.heap.size, 15 - i, none⟩ = false := frozen_blk HB.out _
      clear hd hg
      go_wp2
      go_roundg (16 - (i + 1))
      case measure => have := HG.out; omega
      case rel =>
        refine ⟨i + 1, by omega, rfl, by go_num, Lib.hid ?_, Lib.hid (HK.out.setCell (fun h => absurd h (Nat.lt_irrefl _)) _)⟩
        rw [set_blk HB.out]
        rw [hex_set i who d HD.out (by omega) hd16]
    · have hi16 : i = 16 := by omega
      subst hi16
      have hs : BytesAt wr (.slice (some ⟨w.heap.size, 0, none⟩) 16 16) (hexB 16 who) := by
        refine ⟨by simp [bytesV, hexB_length], _, _, by rw [hexB_length], by rw [hexB_length]; omega, by decide, (fun e => by cases e), fun _ => ⟨_, 0, rfl, fun j hj => ?_⟩⟩
        rw [cell_blk HB.out, Nat.zero_add]
        simp
      have hcv := conv_str hs
      have HN := Lib.hid (show nameB who = lockP ++ hexB 16 who from rfl)
      obtain ⟨Y, hY⟩ : ∃ Y, Y = hexB 16 who := ⟨_, rfl⟩
      have hYl : Y.length ≤ 16 := by rw [hY, hexB_length]; omega
      rw [← hY] at hcv HN
      clear hY hs hg HB
      go_wp2
      go_ret
      refine ⟨?_, HK.out⟩
      rw [HN.out]
      simp [lockP]
      apply ByteArray.ext
      simp

/-! lock.Parse -/
/-- a digit's number -/
def hexV (c : UInt8) : Option Nat := if 48 ≤ c ∧ c ≤ 57 then some (c.toNat - 48) else if 97 ≤ c ∧ c ≤ 102 then some (c.toNat - 87) else none
def hexF : Nat → Bs → Option Nat
  | n, [] => some n
  | n, c :: r => match hexV c with
    | none => none
    | some d => hexF (16 * n + d) r
/-- a name's number -/
def parseB (l : Bs) : Option Nat := if Lib.hasPrefix l lockP = true ∧ (Lib.trimPrefix l lockP).length = 16 then hexF 0 (Lib.trimPrefix l lockP) else none

def digB : Bs := [48, 49, 50, 51, 52, 53, 54, 55, 56, 57, 97, 98, 99, 100, 101, 102]
theorem index_fin : ∀ n : Fin 256, Lib.indexByte digB (UInt8.ofNat n.val) = match hexV (UInt8.ofNat n.val) with | none => -1 | some d => (d : Int) := by decide +kernel
theorem index_hex (c : UInt8) : Lib.indexByte digB c = match hexV c with | none => -1 | some d => (d : Int) := by
  have h := index_fin ⟨c.toNat, c.toNat_lt⟩
  simp only [UInt8.ofNat_toNat] at h
  exact h
theorem hexV_lt {c : UInt8} {d : Nat} (h : hexV c = some d) : d < 16 := by
  unfold hexV at h
  split at h
  · rename_i hc
    cases h
    have := UInt8.le_iff_toNat_le.1 hc.1; have := UInt8.le_iff_toNat_le.1 hc.2
    simp at *
    omega
  · split at h
    · rename_i hc
      cases h
      have := UInt8.le_iff_toNat_le.1 hc.1; have := UInt8.le_iff_toNat_le.1 hc.2
      simp at *
      omega
    · cases h

theorem or_hex (n d : Nat) (hn : n < 1152921504606846976) (hd : d < 16) : bits .or .u64 ((n : Int) * 16) (d : Int) = ((16 * n + d : Nat) : Int) := by
  have e : (n : Int) * 16 = ((2 ^ 4 * n : Nat) : Int) := by push_cast; omega
  rw [e, u64_or_nat _ _ (by omega) (by omega), ← Nat.two_pow_add_eq_or_of_lt (by omega)]

def ParsePost (l : Bs) (w : World) (e : Ending) (w' : World) : Prop :=
  e = .returned (.tuple #[.int .u64 (((parseB l).getD 0 : Nat) : Int), .bool (parseB l).isSome]) ∧ w = w'

set_option maxRecDepth 100000 in
set_option maxHeartbeats 2000000 in
theorem lkparse_any (l : Bs) (w : World) : Calls Try.prog 9 #[strV l] w (ParsePost l w) := by
  have HC := Lib.hid (fun W => (show Calls Try.prog 18 #[strV l, strV lockP] W fun e w' => e = .returned (.tuple #[.string ⟨(Lib.trimPrefix l lockP).toArray⟩, .bool (Lib.hasPrefix l lockP)]) ∧ w' = W from Try.strings_CutPrefix ⟨l.toArray⟩ ⟨lockP.toArray⟩ W))
  have HI := Lib.hid (fun (c : UInt8) W => (show Calls Try.prog 19 #[strV digB, .int .u8 (c.toNat : Int)] W fun e w' => e = .returned (.int .i64 (match hexV c with | none => -1 | some d => (d : Int))) ∧ w' = W from by
    have h := Try.strings_IndexByte ⟨digB.toArray⟩ (c.toNat : Int) W
    rw [show ((c.toNat : Int).toNat.toUInt8) = c from by simp] at h
    rw [← index_hex]
    exact h))
  obtain ⟨R, hR⟩ : ∃ R, R = Lib.trimPrefix l lockP := ⟨_, rfl⟩
  obtain ⟨P, hP⟩ : ∃ P, P = Lib.hasPrefix l lockP := ⟨_, rfl⟩
  rw [← hR, ← hP] at HC
  have HPB := Lib.hid (show parseB l = if P = true ∧ R.length = 16 then hexF 0 R else none from by rw [hR, hP]; rfl)
  clear hR hP
  unfold strV lockP at HC
  cases P
  · go_enter Try.func9, Try.ntmps9
    go_wp2_with fail
    refine (HC.out _).mono ?_
    rintro e w' ⟨rfl, rfl⟩
    go_wp2
    go_ret2
    exact ⟨by rw [HPB.out, if_neg (by simp)]; rfl, rfl⟩
  · by_cases hl : R.length = 16
    · have hl1 : ((R.length : Int) == 16) = true := by rw [hl]; rfl
      have hl2 : ((R.length : Int) != 16) = false := by rw [hl]; rfl
      have hl3 : (R.length == 16) = true := by rw [hl]; rfl
      have hl4 : (R.length != 16) = false := by rw [hl]; rfl
      have hl5 : 16 ≤ R.length ∧ R.length ≤ 16 := by omega
      obtain ⟨hl6, hl7⟩ := hl5
      have HL := Lib.hid hl
      clear hl
      unfold strV digB at HI
      go_enter Try.func9, Try.ntmps9
      go_wp2_with fail
      refine (HC.out _).mono ?_
      rintro e w' ⟨rfl, rfl⟩
      go_wp2
      go_loop [6, 21] (fun v6 v21 => ∃ i n : Nat, i ≤ 16 ∧ v21 = .int .i64 i ∧ v6 = .int .u64 n ∧ Hid (n < 16 ^ i ∧ hexF 0 R = hexF n (R.drop i))) (fun _ v21 => 16 - (intOf v21).toNat)
      case atStart => exact ⟨0, 0, by omega, rfl, rfl, Lib.hid ⟨by decide, rfl⟩⟩
      case round =>
        obtain ⟨i, n, hi, rfl, rfl, HN⟩ := hrel
        by_cases hlt : i < 16
        · have hiR : i < R.length := by omega
          have hlt' : (i : Int) < 16 := by omega
          obtain ⟨x, hx⟩ : ∃ x, x = R[i] := ⟨_, rfl⟩
          have hx2 : (⟨R.toArray⟩ : ByteArray)[i]'(show i < R.toArray.size by simpa using hiR) = x := by subst hx; rfl
          have hdr : R.drop i = x :: R.drop (i + 1) := by rw [hx]; exact List.drop_eq_getElem_cons hiR
          obtain ⟨q, hq⟩ : ∃ q, q = hexV x := ⟨_, rfl⟩
          have HX := Lib.hid hdr; have HQ := Lib.hid hq
          have hI := HI.out x
          rw [← hq] at hI
          have HI2 := Lib.hid hI
          clear hx hdr hq hI
          cases q with
          | none =>
            go_wp2_with fail
            refine (HI2.out _).mono ?_
            rintro e w2 ⟨rfl, rfl⟩
            go_wp2
            go_ret2
            refine ⟨?_, rfl⟩
            have hN : parseB l = none := by
              rw [HPB.out, if_pos ⟨trivial, HL.out⟩, HN.out.2, HX.out]
              show (match hexV x with | none => none | some d => hexF (16 * n + d) (R.drop (i + 1))) = none
              rw [← HQ.out]
            rw [hN]
            rfl
          | some d =>
            have hd16 := hexV_lt HQ.out.symm
            have hn16 := HN.out.1
            have hp : (16 : Nat) ^ i ≤ 16 ^ 15 := Nat.pow_le_pow_right (by decide) (by omega)
            have hor := or_hex n d (by omega) hd16
            have hn0 : (n : Int) * 16 ≤ 18446744073709551615 := by omega
            clear hp
            go_wp2_with fail
            refine (HI2.out _).mono ?_
            rintro e w2 ⟨rfl, rfl⟩
            go_wp2
            go_round
            case rel =>
              refine ⟨i + 1, 16 * n + d, by omega, by go_num, by go_num, Lib.hid ⟨?_, ?_⟩⟩
              · rw [Nat.pow_succ]; omega
              · rw [HN.out.2, HX.out]
                show (match hexV x with | none => none | some d => hexF (16 * n + d) (R.drop (i + 1))) = _
                rw [← HQ.out]
            case measure => simp [intOf]; omega
        · have hi16 : i = 16 := by omega
          subst hi16
          have hN : parseB l = some n := by
            rw [HPB.out, if_pos ⟨trivial, HL.out⟩, HN.out.2, List.drop_eq_nil_of_le (by rw [HL.out]; omega)]
            rfl
          have HPN := Lib.hid hN
          clear hN
          go_wp2
          go_ret2
          exact ⟨by rw [HPN.out]; rfl, rfl⟩
    · have hl1 : ((R.length : Int) == 16) = false := by rw [beq_eq_false_iff_ne]; omega
      have hl2 : ((R.length : Int) != 16) = true := by rw [bne, hl1]; rfl
      have HL := Lib.hid hl
      clear hl
      go_enter Try.func9, Try.ntmps9
      go_wp2_with fail
      refine (HC.out _).mono ?_
      rintro e w' ⟨rfl, rfl⟩
      go_wp2
      go_ret2
      exact ⟨by rw [HPB.out, if_neg (by have := HL.out; simp [this])]; rfl, rfl⟩
end Go.Proofs.Ytlajejbglpggeaa
