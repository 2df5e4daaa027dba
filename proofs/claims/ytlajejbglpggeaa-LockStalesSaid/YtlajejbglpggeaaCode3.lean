/-
  code.Reader: Left, Raw, Num.
-/
import Derived.Test.YtlajejbglpggeaaCode1
import Derived.Test.YtlajejbglpggeaaRun1
import Derived.Test.YtlajejbglpggeaaRef6c
import Derived.Laws.BitsAllLaws
namespace Go.Proofs.Ytlajejbglpggeaa
open Go.RowKit Go.Proofs Go.Lib

theorem bytesV_take (l : Bs) (m : Nat) : bytesV (l.take m) = (bytesV l).take m := by simp [bytesV]
theorem bytesV_drop (l : Bs) (m : Nat) : bytesV (l.drop m) = (bytesV l).drop m := by simp [bytesV]
theorem BytesAt.head {w : World} {a : Option Addr} {n c m c' : Nat} {l : Bs} (h : BytesAt w (.slice a n c) l) (hm : m ≤ l.length) (hc : m ≤ c') (hcc : c' ≤ c) (hz : a = none → c' = 0) : BytesAt w (.slice a m c') (l.take m) := by
  have hn : n = l.length := by obtain ⟨_, a', c', e, _⟩ := h; cases e; rfl
  subst hn
  obtain ⟨h1, a', c1, e, h2, h3, h4, h5⟩ := h
  cases e
  refine ⟨by rw [bytesV_take]; simp [bytesV], a, c', by rw [List.length_take, Nat.min_eq_left hm], by rw [List.length_take]; omega, by omega, hz, fun h0 => ?_⟩
  rw [List.length_take, Nat.min_eq_left hm] at h0
  obtain ⟨b, o, e, h6⟩ := h5 (by omega)
  refine ⟨b, o, e, fun j hj => ?_⟩
  rw [List.length_take, Nat.min_eq_left hm] at hj
  rw [h6 j (by omega), bytesV_take, List.getElem?_take, if_pos (by omega)]
theorem BytesAt.tail {w : World} {b o n c m : Nat} {l : Bs} (h : BytesAt w (.slice (some ⟨b, o, none⟩) n c) l) (hm : m ≤ l.length) : BytesAt w (.slice (some ⟨b, o + m, none⟩) (n - m) (c - m)) (l.drop m) := by
  have hn : n = l.length := by obtain ⟨_, a', c', e, _⟩ := h; cases e; rfl
  subst hn
  obtain ⟨h1, a', c1, e, h2, h3, h4, h5⟩ := h
  cases e
  refine ⟨by rw [bytesV_drop]; simp [bytesV], _, _, by rw [List.length_drop], by rw [List.length_drop]; omega, by omega, (fun e => by cases e), fun h0 => ?_⟩
  rw [List.length_drop] at h0
  obtain ⟨b', o', e, h6⟩ := h5 (by omega)
  cases e
  refine ⟨b, o + m, rfl, fun j hj => ?_⟩
  rw [List.length_drop] at hj
  rw [Nat.add_assoc, h6 (m + j) (by omega), bytesV_drop, List.getElem?_drop]
theorem BytesAt.none {w : World} {a : Option Addr} {c : Nat} (hc : c ≤ maxLen) (hz : a = none → c = 0) : BytesAt w (.slice a 0 c) [] :=
  ⟨by simp [bytesV], a, c, rfl, Nat.zero_le _, hc, hz, fun h => absurd h (Nat.lt_irrefl _)⟩

theorem bytesAt_at {w : World} {b o n c : Nat} {l : Bs} (h : BytesAt w (.slice (some ⟨b, o, none⟩) n c) l) {i : Nat} {x : UInt8} (hx : l[i]? = some x) : w.cell? ⟨b, o + i, none⟩ = some (.int .u8 (x.toNat : Int)) := by
  obtain ⟨h1, a', c1, e, h2, h3, h4, h5⟩ := h
  cases e
  have hi : i < l.length := (List.getElem?_eq_some_iff.1 hx).1
  obtain ⟨b', o', e, h6⟩ := h5 (by omega)
  cases e
  rw [h6 i (by omega)]
  simp [bytesV, hx]

theorem rdleft_any {w : World} {rb : Nat} {l : Bs} (h : RdAt w rb l) : Calls Try.prog 71 #[.pointer (some ⟨rb, 0, none⟩)] w fun e w' => e = .returned (.int .i64 l.length) ∧ w = w' := by
  obtain ⟨v, h1, h2, h3⟩ := h
  obtain ⟨a, c, rfl⟩ : ∃ a c, v = .slice a l.length c := let ⟨_, a, c, e, _⟩ := h2; ⟨a, c, e⟩
  have hc := cell_blk h1 0
  simp at hc
  clear h1 h2 h3
  go_enter Try.func71, Try.ntmps71
  go_wp2
  go_ret
  exact ⟨rfl, rfl⟩

def RawPost (rb : Nat) (l : Bs) (m : Nat) (w : World) (e : Ending) (w' : World) : Prop :=
  ∃ v, e = .returned v ∧ BytesAt w' v (l.take m) ∧ RdAt w' rb (l.drop m) ∧ Keep (· = rb) w w' ∧ (∀ x, 0 < (l.take m).length → vblk v = some x → x ≠ rb) ∧ ∃ a, v = .slice a m m

set_option maxRecDepth 100000 in
theorem rdraw_short {w : World} {rb : Nat} {l : Bs} (h : RdAt w rb l) (n : Int) (hn : (l.length : Int) < n) :
    Calls Try.prog 72 #[.pointer (some ⟨rb, 0, none⟩), .int .i64 n] w fun e w' => e = .panicked (errChain 20) ∧ w = w' := by
  obtain ⟨v, h1, h2, h3⟩ := h
  obtain ⟨a, c, rfl⟩ : ∃ a c, v = .slice a l.length c := let ⟨_, a, c, e, _⟩ := h2; ⟨a, c, e⟩
  have hc := cell_blk h1 0
  simp at hc
  have hm : max n 0 = n := by omega
  clear h1 h2 h3
  go_enter Try.func72, Try.ntmps72
  go_wp2_with (first | (go_at_call 27; refine (must_err 20 (by decide) _).mono ?_; rintro e w' ⟨rfl, rfl⟩) | fail)
  exact ⟨rfl, rfl, rfl⟩

set_option maxRecDepth 100000 in
set_option maxHeartbeats 1000000 in
theorem rdraw_go {w : World} {rb : Nat} {l : Bs} (h : RdAt w rb l) (m : Nat) (n : Int) (hn : max n 0 = (m : Int)) (hm : m ≤ l.length) :
    Calls Try.prog 72 #[.pointer (some ⟨rb, 0, none⟩), .int .i64 n] w (RawPost rb l m w) := by
  obtain ⟨v, h1, h2, h3⟩ := h
  obtain ⟨a, c, rfl⟩ : ∃ a c, v = .slice a l.length c := let ⟨_, a, c, e, _⟩ := h2; ⟨a, c, e⟩
  have hc := cell_blk h1 0
  have hf := frozen_blk h1 0
  simp at hc
  have hcm : l.length ≤ c ∧ c ≤ maxLen ∧ (a = none → c = 0) := by obtain ⟨_, a', c', e, q1, q2, q3, _⟩ := h2; cases e; exact ⟨q1, q2, q3⟩
  have hset := fun v => set_blk h1 0 v
  have hkk := (Keep.refl (fun x => x = rb) w)
  have hrk : ∀ v, Keep (fun x => x = rb) w (w.setCell ⟨rb, 0, none⟩ v) := fun v => (Keep.refl (fun x => x = rb) w).setCell (p := ⟨rb, 0, none⟩) (fun _ => rfl) v
  obtain ⟨q1, q2, q3⟩ := hcm
  have hB : ∀ v, BytesAt (w.setCell ⟨rb, 0, none⟩ v) (.slice a l.length c) l := fun v => Sl.keep h2 (hrk v) (fun x hx e e2 => h3 x hx e e2)
  by_cases h0 : l.length = 0
  · obtain rfl : m = 0 := by omega
    obtain rfl : l = [] := List.eq_nil_of_length_eq_zero h0
    have fin : ∀ a' c', (c' ≤ c) → (a' = none → c' = 0) → RdAt (w.setCell ⟨rb, 0, none⟩ (.slice a' 0 c')) rb ([].drop 0) := fun a' c' hc' hz => ⟨.slice a' 0 c', by rw [hset]; rfl, BytesAt.none (by omega) hz, fun x hx => absurd hx (by simp)⟩
    have FIN := Lib.hid fin; have HRK := Lib.hid hrk
    clear fin hrk hB h2 h3 h1 hset hkk h0 hm
    cases a with
    | none =>
      obtain rfl : c = 0 := q3 rfl
      clear q1 q2 q3
      go_enter Try.func72, Try.ntmps72
      go_wp2
      go_ret
      exact ⟨_, rfl, BytesAt.none (Nat.zero_le _) (fun _ => rfl), FIN.out _ _ (by omega) (fun _ => rfl), HRK.out _, fun x hx => absurd hx (by simp), _, rfl⟩
    | some ad =>
      have Q2 := Lib.hid q2
      clear q3 q1 q2
      by_cases hc0 : c = 0
      · subst hc0
        go_enter Try.func72, Try.ntmps72
        go_wp2
        go_ret
        exact ⟨_, rfl, BytesAt.none (Nat.zero_le _) (fun _ => rfl), FIN.out _ _ (by omega) (fun e => by cases e), HRK.out _, fun x hx => absurd hx (by simp), _, rfl⟩
      · go_enter Try.func72, Try.ntmps72
        go_wp2
        go_ret
        exact ⟨_, rfl, BytesAt.none (Nat.zero_le _) (fun _ => rfl), FIN.out _ _ (by omega) (fun e => by cases e), HRK.out _, fun x hx => absurd hx (by simp), _, rfl⟩
  · obtain ⟨b, o, c2, ev, _, _⟩ := Sl.base h2 (by omega)
    cases ev
    have fin : ∀ a' n' c', n' = l.length - m → BytesAt (w.setCell ⟨rb, 0, none⟩ (.slice (some ⟨b, a', none⟩) n' c')) (.slice (some ⟨b, a', none⟩) n' c') (l.drop m) → RawPost rb l m w (.returned (.slice (some ⟨b, o, none⟩) m m)) (w.setCell ⟨rb, 0, none⟩ (.slice (some ⟨b, a', none⟩) n' c')) := fun a' n' c' hn' hb' =>
      ⟨_, rfl, BytesAt.head (hB _) hm (Nat.le_refl _) (by omega) (fun e => by cases e), ⟨_, by rw [hset]; rfl, hb', fun x hx e => h3 x (by omega) (by simpa [vblk] using e)⟩, hrk _, fun x hx e => h3 x (by omega) (by simpa [vblk] using e), _, rfl⟩
    have hbt : ∀ v, BytesAt (w.setCell ⟨rb, 0, none⟩ v) (.slice (some ⟨b, o + m, none⟩) (l.length - m) (c - m)) (l.drop m) := fun v => BytesAt.tail (hB v) hm
    obtain ⟨k, hk⟩ : ∃ k, k = l.length := ⟨_, rfl⟩
    have FIN := Lib.hid fin; have HBT := Lib.hid hbt
    rw [← hk] at hc q1 hm h0
    have hsub : (k : Int) - m = ((k - m : Nat) : Int) := by omega
    have HK := Lib.hid hk
    have Q2 := Lib.hid q2
    clear fin hbt hrk hB h2 h3 h1 hset hkk hk q3 q2
    by_cases hmc : m = c
    · subst hmc
      have hkm : k = m := by omega
      subst hkm
      go_enter Try.func72, Try.ntmps72
      go_wp2
      go_ret
      have hd : l.drop k = [] := List.drop_eq_nil_of_le (by have := HK.out; omega)
      exact FIN.out o 0 0 (by have := HK.out; omega) (by rw [hd]; exact BytesAt.none (Nat.zero_le _) (fun e => by cases e))
    · go_enter Try.func72, Try.ntmps72
      go_wp2
      go_ret
      have hb := HBT.out (.slice (some ⟨b, o + m, none⟩) (k - m) (c - m))
      rw [← HK.out] at hb
      exact FIN.out _ _ _ (by rw [← HK.out]) hb

theorem leN_snoc (l : Bs) (c : UInt8) : leN (l ++ [c]) = leN l + 256 ^ l.length * c.toNat := by
  rw [leN_append]; simp [leN]

theorem or_next (y x i : Nat) (hy : y < 256 ^ i) (hx : x < 256) (hi : i ≤ 7) : bits .or .u64 (y : Int) (IntKind.u64.wrap ((x : Int) * 2 ^ (8 * i))) = ((y + 256 ^ i * x : Nat) : Int) := by
  have e : (256 : Nat) ^ i = 2 ^ (8 * i) := by rw [Nat.pow_mul]
  have h1 : 256 ^ i * x < 18446744073709551616 := by
    have a : 256 ^ i * x ≤ 256 ^ i * 255 := Nat.mul_le_mul_left _ (by omega)
    have b : (256 : Nat) ^ i ≤ 256 ^ 7 := Nat.pow_le_pow_right (by decide) hi
    omega
  have h2 : y < 18446744073709551616 := by
    have b : (256 : Nat) ^ i ≤ 256 ^ 7 := Nat.pow_le_pow_right (by decide) hi
    omega
  have e2 : (x : Int) * 2 ^ (8 * i) = ((256 ^ i * x : Nat) : Int) := by rw [e]; push_cast; exact Int.mul_comm _ _
  rw [e2, IntKind.wrap_u64]
  have e3 : ((256 ^ i * x : Nat) : Int) % 18446744073709551616 = ((256 ^ i * x : Nat) : Int) := by omega
  rw [e3, u64_or_nat _ _ h2 h1, e, Nat.or_comm, ← Nat.two_pow_add_eq_or_of_lt (by rw [← e]; exact hy), Nat.add_comm]

/-- what Num comes to -/
def NumPost (rb : Nat) (l : Bs) (m : Nat) (w : World) (e : Ending) (w' : World) : Prop :=
  e = .returned (.int .u64 (leN (l.take m))) ∧ RdAt w' rb (l.drop m) ∧ Keep (· = rb) w w'

theorem rdnum_short {w : World} {rb : Nat} {l : Bs} (h : RdAt w rb l) (n : Int) (hn : (l.length : Int) < heldB n) :
    Calls Try.prog 60 #[.pointer (some ⟨rb, 0, none⟩), .int .i64 n] w fun e w' => e = .panicked (errChain 20) ∧ w = w' := by
  have HR := Lib.hid (rdraw_short h (heldB n) hn)
  have HH := Lib.hid (fun W => held_cd n W)
  obtain ⟨k, hk⟩ : ∃ k, k = heldB n := ⟨_, rfl⟩
  rw [← hk] at HR HH
  clear hk hn h
  go_enter Try.func60, Try.ntmps60
  go_wp2_with fail
  refine (HH.out _).mono ?_
  rintro e w' ⟨rfl, rfl⟩
  go_wp2_with fail
  refine HR.out.mono ?_
  rintro e w' ⟨rfl, rfl⟩
  exact ⟨rfl, rfl, rfl⟩

set_option maxRecDepth 100000 in
set_option maxHeartbeats 1000000 in
theorem rdnum_go {w : World} {rb : Nat} {l : Bs} (h : RdAt w rb l) (n : Int) (m : Nat) (hm : heldB n = m) (hn : m ≤ l.length) :
    Calls Try.prog 60 #[.pointer (some ⟨rb, 0, none⟩), .int .i64 n] w (NumPost rb l m w) := by
  have h18 := heldB_in n
  have HR := Lib.hid (rdraw_go h m (m : Int) (by omega) hn)
  have HH := Lib.hid (fun W => held_cd n W)
  rw [hm] at HH h18
  have hm1 : 1 ≤ m ∧ m ≤ 8 := by omega
  obtain ⟨hm2, hm3⟩ := hm1
  have HT := Lib.hid (show (l.take m).length = m by rw [List.length_take]; omega)
  clear hm hn h h18
  go_enter Try.func60, Try.ntmps60
  go_wp2_with fail
  refine (HH.out _).mono ?_
  rintro e w' ⟨rfl, rfl⟩
  go_wp2_with fail
  refine HR.out.mono ?_
  rintro e w1 ⟨v, rfl, hb, hr, hk, -, a, rfl⟩
  obtain ⟨b, o, c2, ev, _, _⟩ := Sl.base hb (by have := HT.out; omega)
  simp only [Value.slice.injEq] at ev
  obtain ⟨rfl, -, -⟩ := ev
  have HB := Lib.hid hb; have HRD := Lib.hid hr; have HK := Lib.hid hk
  clear hb hr hk
  go_wp2
  go_loop [5, 13] (fun v5 v13 => ∃ i : Nat, i ≤ m ∧ v13 = .int .i64 i ∧ v5 = .int .u64 (leN ((l.take m).take i))) (fun _ v13 => m - (intOf v13).toNat)
  case atStart => exact ⟨0, Nat.zero_le _, rfl, rfl⟩
  case round =>
    obtain ⟨i, hi, rfl, rfl⟩ := hrel
    by_cases hlt : i < m
    · obtain ⟨x, hx⟩ : ∃ x, (l.take m)[i]? = some x := ⟨_, List.getElem?_eq_getElem (by rw [HT.out]; exact hlt)⟩
      have c0 : w1.cell? ⟨b, o + i, none⟩ = some (.int .u8 (x.toNat : Int)) := bytesAt_at HB.out hx
      have hsn : (l.take m).take (i + 1) = (l.take m).take i ++ [x] := by rw [List.take_add_one, hx]; rfl
      have hll : ((l.take m).take i).length = i := by rw [List.length_take, HT.out]; omega
      have hle := leN_lt ((l.take m).take i)
      rw [hll] at hle
      have hnx : leN ((l.take m).take (i + 1)) = leN ((l.take m).take i) + 256 ^ i * x.toNat := by rw [hsn, leN_snoc, hll]
      obtain ⟨y, hy⟩ : ∃ y, y = leN ((l.take m).take i) := ⟨_, rfl⟩
      rw [← hy] at hnx hle ⊢
      have HNX := Lib.hid hnx; have HX := Lib.hid hx
      have hx2 := x.toNat_lt
      have hi8 : 8 * (i : Int) ≤ 56 := by omega
      have HLE := Lib.hid hle; have HLT := Lib.hid hlt
      clear hnx hx hsn hll hy hle
      go_wp2
      go_round
      case rel => exact ⟨i + 1, by omega, by go_num, by rw [HNX.out, or_next y x.toNat i HLE.out hx2 (by omega)]⟩
      case measure => simp [intOf]; omega
    · have him : i = m := by omega
      subst him
      go_wp2
      go_ret
      have e := List.take_of_length_le (l := l.take i) (i := i) (by rw [HT.out]; omega)
      exact ⟨by rw [e]; rfl, HRD.out, HK.out⟩
end Go.Proofs.Ytlajejbglpggeaa
