/-
  coldstorelaw15.alive.
-/
import Derived.Test.YtlajejbglpggeaaHold
import Derived.Test.YtlajejbglpggeaaNew
import Derived.Test.YtlajejbglpggeaaMaskLaw

/-! coldstorelaw15.alive. -/
namespace Go.Proofs.Ytlajejbglpggeaa
open Go.RowKit Go.Proofs Go.Lib

def al0 : OS := OS.new 1000
def al1 := takeF 1 false 0 10 al0
def al2 := takeF 2 false 1 10 al1.1
def al3 := takeF 3 true 2 10 al2.1
def al4 := holdF 2 10 al3.1
def al5 := takeF 3 true 11 10 al4.1
theorem al1_is : al1.2 = 0 := by decide +kernel
theorem al2_is : al2.2 = 0 := by decide +kernel
theorem al3_is : al3.2 = 34 := by decide +kernel
theorem al4_is : al4.2.2 = 0 ∧ al4.2.1.length = 2 := by decide +kernel
theorem al5_is : al5.2 = 0 := by decide +kernel
theorem al6_is : al5.1.getCode (nameB 1) = 4 := by decide +kernel
theorem name255 : nameB 255 = [108, 111, 99, 107, 47, 48, 48, 48, 48, 48, 48, 48, 48, 48, 48, 48, 48, 48, 48, 102, 102] := by decide +kernel
theorem parse255 : parseB (nameB 255) = some 255 := by decide +kernel
theorem parseff : parseB [108, 111, 99, 107, 47, 102, 102] = none := by decide +kernel

/-- a store of one's own, at a call -/
structure LS (w0 w : World) (sb : Nat) (S : Nat → Prop) (s : OS) : Prop where
  st : St w sb (.pointer none) S s
  low : ∀ x, S x → w0.heap.size ≤ x
  keep : Keep (fun _ => False) w0 w
theorem LS.keep0 {w0 w w' : World} {sb : Nat} {S : Nat → Prop} {s : OS} (h : LS w0 w sb S s) (k : Keep (fun _ => False) w w') : LS w0 w' sb S s := ⟨h.st.keep0 k, h.low, h.keep.trans k⟩
theorem LS.turn {w0 w w' : World} {sb : Nat} {S S' : Nat → Prop} {s s' : OS} (h : LS w0 w sb S s) (h1 : St w' sb (.pointer none) S' s') (t : Turn S S' w w') : LS w0 w' sb S' s' :=
  ⟨h1, fun x e => (t.grow x e).elim (h.low x) (fun e => Nat.le_trans h.keep.size e), h.keep.trans' t.keep (fun _ _ e => e) (fun i hi e => by have := h.low i e; omega)⟩
theorem LS.new {w w' : World} {sb : Nat} {q : Int} (h : St w' sb (.pointer none) (fun b => w.heap.size ≤ b ∧ b < w'.heap.size) (.new q)) (k : Keep (fun _ => False) w w') : LS w w' sb (fun b => w.heap.size ≤ b ∧ b < w'.heap.size) (.new q) := ⟨h, fun _ e => e.1, k⟩

theorem name255_any (W : World) : Calls Try.prog 8 #[.int .u64 255] W fun e w' => e = .returned (.string ⟨#[108, 111, 99, 107, 47, 48, 48, 48, 48, 48, 48, 48, 48, 48, 48, 48, 48, 48, 48, 102, 102]⟩) ∧ Keep (fun _ => False) W w' := by
  have h := lkname_any 255 (by decide) W
  rw [name255] at h
  exact h
theorem parse255_any (W : World) : Calls Try.prog 9 #[.string ⟨#[108, 111, 99, 107, 47, 48, 48, 48, 48, 48, 48, 48, 48, 48, 48, 48, 48, 48, 48, 102, 102]⟩] W fun e w' => e = .returned (.tuple #[.int .u64 255, .bool true]) ∧ W = w' := by
  have h := lkparse_any (nameB 255) W
  unfold ParsePost at h
  rw [parse255, name255] at h
  exact h
theorem parseff_any (W : World) : Calls Try.prog 9 #[.string ⟨#[108, 111, 99, 107, 47, 102, 102]⟩] W fun e w' => e = .returned (.tuple #[.int .u64 0, .bool false]) ∧ W = w' := by
  have h := lkparse_any [108, 111, 99, 107, 47, 102, 102] W
  unfold ParsePost at h
  rw [parseff] at h
  exact h

theorem take_ls {w0 w : World} {sb : Nat} {S : Nat → Prop} {s : OS} (h : LS w0 w sb S s) (hl : s.left = -1) (ho : s.ops ≤ 4000000000000000000) (who : Nat) (hwho : who < 18446744073709551616) (alone : Bool) (now stale : Int) :
    Calls Try.prog 11 #[.pointer (some ⟨sb, 0, none⟩), .int .u64 who, .bool alone, .int .i64 now, .int .i64 stale] w fun e w' => e = .returned (.int .i64 (takeF who alone now stale s).2) ∧ ∃ S', LS w0 w' sb S' (takeF who alone now stale s).1 :=
  (take_any h.st hl hwho ho).mono fun e w' ⟨h1, S', h2, h3⟩ => ⟨h1, S', h.turn h2 h3⟩
theorem hold_ls {w0 w : World} {sb : Nat} {S : Nat → Prop} {s : OS} (h : LS w0 w sb S s) (hl : s.left = -1) (ho : s.ops ≤ 4000000000000000000) (now stale : Int) :
    Calls Try.prog 13 #[.pointer (some ⟨sb, 0, none⟩), .int .i64 now, .int .i64 stale] w fun e w' => ∃ v, e = .returned (.tuple #[v, .int .i64 (holdF now stale s).2.2]) ∧ LS w0 w' sb S (holdF now stale s).1 ∧ U64sAt w' v (holdF now stale s).2.1 ∧ ∀ y, vblk v = some y → w.heap.size ≤ y :=
  (holders_any h.st hl ho).mono fun e w' ⟨v, h1, h2, h3, h4, h5⟩ => ⟨v, h1, h.turn h2 h3, h4, h5⟩
theorem free_ls {w0 w : World} {sb : Nat} {S : Nat → Prop} {s : OS} (h : LS w0 w sb S s) (hl : s.left = -1) (ho : s.ops < 4611686018427387904) (who : Nat) (hwho : who < 18446744073709551616) :
    Calls Try.prog 12 #[.pointer (some ⟨sb, 0, none⟩), .int .u64 who] w fun e w' => e = .returned (.int .i64 (s.getCode (nameB who))) ∧ LS w0 w' sb S (s.drop (nameB who)) :=
  (free_any h.st hl hwho ho).mono fun e w' ⟨h1, h2, h3⟩ => ⟨h1, h.turn h2 h3⟩

set_option maxRecDepth 100000 in
set_option maxHeartbeats 4000000 in
theorem alive15_any (w : World) : Calls Try.prog 7 #[] w fun e w' => e = .returned (.bool true) ∧ Keep (fun _ => False) w w' := by
  go_enter Try.func7, Try.ntmps7
  go_wp2_with fail
  refine (new_any 1000 _ (by decide) (by decide)).mono ?_
  rintro e w1 ⟨sb, rfl, hs1, k1⟩
  have H1 := Lib.hid (LS.new hs1 k1)
  clear hs1 k1
  go_wp2_with fail
  refine (name255_any _).mono ?_
  rintro e w2 ⟨rfl, k2⟩
  have H2 := Lib.hid (H1.out.keep0 k2)
  clear k2
  go_wp2_with fail
  refine (name255_any _).mono ?_
  rintro e w3 ⟨rfl, k3⟩
  have H3 := Lib.hid (H2.out.keep0 k3)
  clear k3
  go_wp2_with fail
  refine (parse255_any _).mono ?_
  rintro e w4 ⟨rfl, rfl⟩
  go_wp2_with fail
  refine (parseff_any _).mono ?_
  rintro e w4 ⟨rfl, rfl⟩
  have T1 := Lib.hid (fun W S (h : LS w W sb S al0) => (show Calls Try.prog 11 #[.pointer (some ⟨sb, 0, none⟩), .int .u64 1, .bool false, .int .i64 0, .int .i64 10] W fun e w' => e = .returned (.int .i64 0) ∧ ∃ S', LS w w' sb S' al1.1 from al1_is ▸ take_ls h (by decide +kernel) (by decide +kernel) 1 (by decide) false 0 10))
  have T2 := Lib.hid (fun W S (h : LS w W sb S al1.1) => (show Calls Try.prog 11 #[.pointer (some ⟨sb, 0, none⟩), .int .u64 2, .bool false, .int .i64 1, .int .i64 10] W fun e w' => e = .returned (.int .i64 0) ∧ ∃ S', LS w w' sb S' al2.1 from al2_is ▸ take_ls h (by decide +kernel) (by decide +kernel) 2 (by decide) false 1 10))
  have T3 := Lib.hid (fun W S (h : LS w W sb S al2.1) => (show Calls Try.prog 11 #[.pointer (some ⟨sb, 0, none⟩), .int .u64 3, .bool true, .int .i64 2, .int .i64 10] W fun e w' => e = .returned (.int .i64 34) ∧ ∃ S', LS w w' sb S' al3.1 from al3_is ▸ take_ls h (by decide +kernel) (by decide +kernel) 3 (by decide) true 2 10))
  go_wp2_with fail
  refine (T1.out _ _ H3.out).mono ?_
  rintro e w5 ⟨rfl, S5, h5⟩
  have H5 := Lib.hid h5
  clear h5
  go_wp2_with fail
  refine (T2.out _ _ H5.out).mono ?_
  rintro e w6 ⟨rfl, S6, h6⟩
  have H6 := Lib.hid h6
  clear h6
  go_wp2_with fail
  refine (T3.out _ _ H6.out).mono ?_
  rintro e w7 ⟨rfl, S7, h7⟩
  have H7 := Lib.hid h7
  clear h7
  have T4 := Lib.hid (hold_ls H7.out (by decide +kernel) (by decide +kernel) 2 10)
  go_wp2_with fail
  refine T4.out.mono ?_
  rintro e w8 ⟨v, rfl, h8, hv, -⟩
  have e4 : (holdF 2 10 al3.1).2.2 = 0 := al4_is.1
  have e5 : (holdF 2 10 al3.1).2.1.length = 2 := al4_is.2
  obtain ⟨va, vc, rfl⟩ : ∃ a c, v = .slice a (holdF 2 10 al3.1).2.1.length c := let ⟨_, a, c, e, _⟩ := hv; ⟨a, c, e⟩
  rw [e4, e5]
  have T5 := Lib.hid (show Calls Try.prog 11 #[.pointer (some ⟨sb, 0, none⟩), .int .u64 3, .bool true, .int .i64 11, .int .i64 10] w8 fun e w' => e = .returned (.int .i64 0) ∧ ∃ S', LS w w' sb S' al5.1 from al5_is ▸ take_ls (s := al4.1) h8 (by decide +kernel) (by decide +kernel) 3 (by decide) true 11 10)
  clear h8 hv e4 e5
  go_wp2_with fail
  refine T5.out.mono ?_
  rintro e w9 ⟨rfl, S9, h9⟩
  have T6 := Lib.hid (show Calls Try.prog 12 #[.pointer (some ⟨sb, 0, none⟩), .int .u64 1] w9 fun e w' => e = .returned (.int .i64 4) ∧ LS w w' sb S9 (al5.1.drop (nameB 1)) from al6_is ▸ free_ls h9 (by decide +kernel) (by decide +kernel) 1 (by decide))
  clear h9
  go_wp2_with fail
  refine T6.out.mono ?_
  rintro e w10 ⟨rfl, h10⟩
  have T7 := Lib.hid (show Calls Try.prog 11 #[.pointer (some ⟨sb, 0, none⟩), .int .u64 3, .bool true, .int .i64 0, .int .i64 0] w10 fun e w' => e = .returned (.int .i64 23) ∧ ∃ S', LS w w' sb S' _ from take_ls h10 (by decide +kernel) (by decide +kernel) 3 (by decide) true 0 0)
  clear h10
  go_wp2_with fail
  refine T7.out.mono ?_
  rintro e w11 ⟨rfl, S11, h11⟩
  have H11 := Lib.hid h11
  clear h11
  go_wp2
  go_ret
  exact ⟨rfl, H11.out.keep⟩
end Go.Proofs.Ytlajejbglpggeaa

/-! Plain laws of locks: a name's number, a lock's bytes. -/
namespace Go.Proofs.Ytlajejbglpggeaa
open Go.RowKit Go.Proofs Go.Lib

theorem hexV_hexD : ∀ d : Fin 16, hexV (hexD d.val) = some d.val := by decide
theorem hexF_hexB : ∀ (k n m : Nat), hexF m (hexB k n) = some (m * 16 ^ k + n % 16 ^ k)
  | 0, n, m => by simp [hexB, hexF, Nat.mod_one]
  | k + 1, n, m => by
    have hd : n / 16 ^ k % 16 < 16 := Nat.mod_lt _ (by decide)
    have h1 := hexV_hexD ⟨n / 16 ^ k % 16, hd⟩
    simp only at h1
    simp only [hexB, hexF, h1]
    rw [hexF_hexB k n]
    congr 1
    rw [Nat.pow_succ, Nat.mod_mul, Nat.add_mul, Nat.mul_comm 16 m, Nat.mul_assoc, Nat.mul_comm 16 (16 ^ k), Nat.mul_comm (n / 16 ^ k % 16)]
    omega
theorem pre_name (who : Nat) : Lib.hasPrefix (nameB who) lockP = true := by
  unfold Lib.hasPrefix nameB
  rw [List.isPrefixOf_iff_prefix]
  exact List.prefix_append _ _
theorem trim_name (who : Nat) : Lib.trimPrefix (nameB who) lockP = hexB 16 who := by
  unfold Lib.trimPrefix
  rw [if_pos (pre_name who)]
  unfold nameB
  exact List.drop_left
theorem parse_name {who : Nat} (h : who < 18446744073709551616) : parseB (nameB who) = some who := by
  unfold parseB
  rw [trim_name, if_pos ⟨pre_name who, hexB_length 16 who⟩, hexF_hexB]
  congr 1
  rw [Nat.zero_mul, Nat.zero_add]
  exact Nat.mod_eq_of_lt (by omega)
theorem name_inj {a b : Nat} (ha : a < 18446744073709551616) (hb : b < 18446744073709551616) (h : nameB a = nameB b) : a = b := by
  have h1 := parse_name ha
  rw [h, parse_name hb] at h1
  exact (Option.some.inj h1).symm

theorem unseal_seal (k : UInt8) (I : Bs) : unsealB k (sealB k I) = (I, 0) := by
  have hl := sealB_length k I
  have hs : sealB k I = k :: (I ++ leB 4 (crcB (k :: I))) := rfl
  have ht : (I ++ leB 4 (crcB (k :: I))).take ((sealB k I).length - 5) = I := by
    rw [hl, Nat.add_sub_cancel, List.take_left]
  unfold unsealB
  rw [if_neg (by omega)]
  rw [hs] at ht ⊢
  simp only
  rw [ht, ← hs]
  simp
theorem dec_lock {since : Nat} (h : since ≤ 1125899906842624) (alone : Bool) : decB (lockB since alone) = some (since, alone) := by
  unfold decB lockB
  rw [unseal_seal]
  have h8 : (leB 8 since).length = 8 := leB_length _ _
  have e1 : (leB 8 since ++ leB 1 (if alone = true then 1 else 0)).take 8 = leB 8 since := by
    have := List.take_left (l₁ := leB 8 since) (l₂ := leB 1 (if alone = true then 1 else 0))
    rw [h8] at this
    exact this
  have e2 : (leB 8 since ++ leB 1 (if alone = true then 1 else 0)).drop 8 = leB 1 (if alone = true then 1 else 0) := by
    have := List.drop_left (l₁ := leB 8 since) (l₂ := leB 1 (if alone = true then 1 else 0))
    rw [h8] at this
    exact this
  have e3 : (leB 1 (if alone = true then 1 else 0)).take 1 = leB 1 (if alone = true then 1 else 0) := List.take_of_length_le (by rw [leB_length]; exact Nat.le_refl _)
  rw [e1, e2, e3, leN_leB, leN_leB]
  have e4 : since % 256 ^ 8 = since := Nat.mod_eq_of_lt (by omega)
  rw [e4, if_pos]
  · cases alone <;> rfl
  · refine ⟨rfl, by simp [leB_length], ?_, h⟩
    cases alone <;> decide
theorem fresh_lock {since : Nat} (h : since ≤ 1125899906842624) (alone : Bool) (now stale : Int) : freshB (lockB since alone) now stale = if now - (since : Int) < stale then some alone else none := by
  unfold freshB
  rw [dec_lock h]
  rfl

theorem hex_good : ∀ d : Fin 16, badByte (hexD d.val) = false := by decide
theorem hexB_good : ∀ (k n : Nat), (hexB k n).all (fun c => !badByte c) = true
  | 0, _ => rfl
  | k + 1, n => by
    have hd : n / 16 ^ k % 16 < 16 := Nat.mod_lt _ (by decide)
    have h1 := hex_good ⟨n / 16 ^ k % 16, hd⟩
    simp only at h1
    simp only [hexB, List.all_cons, h1, hexB_good k n]
    rfl
theorem nameOK_name (who : Nat) : nameOK (nameB who) = true := by
  unfold nameOK
  rw [nameB_length]
  unfold nameB
  rw [List.all_append, hexB_good]
  decide

/-! one lock, then another one -/
theorem op_none {s : OS} (h : s.faults = []) : s.op.faults = [] := by show s.faults.tail = []; rw [h]; rfl
theorem code_none {s : OS} (h : s.faults = []) : s.code = 0 := by unfold OS.code; rw [h]; rfl
/-- a store without faults that has room -/
theorem put_lock {s : OS} (hf : s.faults = []) {who since : Nat} {alone : Bool} (hq : (14 : Int) ≤ s.quota - sizeR s.row) (hr : s.row.length < 4096) :
    s.putCode (nameB who) (lockB since alone) = 0 ∧ s.put (nameB who) (lockB since alone) = { s.op with row := putK (nameB who) (lockB since alone) s.row } := by
  have hc : s.putCode (nameB who) (lockB since alone) = 0 := by
    unfold OS.putCode
    rw [if_neg (by rw [code_none hf]; decide), if_neg (by rw [nameOK_name]; decide)]
    unfold OS.roomCode
    rw [lockB_length, if_neg (by decide), if_neg (by omega), if_neg (by omega)]
  exact ⟨hc, by unfold OS.put; rw [if_pos hc]⟩

/-- a store with one lock -/
def one (who since : Nat) (al : Bool) (n : Int) : OS := ⟨[(nameB who, lockB since al)], 1000, n, -1, []⟩
section
variable {who since : Nat} {al : Bool} {n : Int}
theorem one_names : (one who since al n).names lockP = [nameB who] := by
  unfold OS.names one
  simp [hasPre, pre_name]
theorem one_get : (one who since al n).getCode (nameB who) = 0 := by
  unfold OS.getCode
  rw [if_neg (by rw [code_none rfl]; decide)]
  unfold one
  simp [lk_cons]
theorem one_bytes : (one who since al n).getBytes (nameB who) = lockB since al := by
  unfold OS.getBytes
  rw [if_neg (by rw [code_none rfl]; decide)]
  unfold one
  simp [lk_cons]
theorem one_op : (one who since al n).op = one who since al (n + 1) := rfl
theorem one_size : sizeR (one who since al n).row = 14 := by simp [one, sizeR, lockB_length]
theorem one_put (w2 s2 : Nat) (a2 : Bool) : (one who since al n).putCode (nameB w2) (lockB s2 a2) = 0 ∧ ((who = w2) → (one who since al n).put (nameB w2) (lockB s2 a2) = one w2 s2 a2 (n + 1)) := by
  have h := put_lock (s := one who since al n) rfl (who := w2) (since := s2) (alone := a2) (by rw [one_size]; show (14 : Int) ≤ 1000 - (14 : Nat); decide) (by show 1 < 4096; decide)
  refine ⟨h.1, fun e => ?_⟩
  subst e
  rw [h.2, one_op]
  unfold one putK delK
  simp [insK]
def none15 (n : Int) : OS := ⟨[], 1000, n, -1, []⟩
theorem none_put (w2 s2 : Nat) (a2 : Bool) : (none15 n).putCode (nameB w2) (lockB s2 a2) = 0 ∧ (none15 n).put (nameB w2) (lockB s2 a2) = one w2 s2 a2 (n + 1) := by
  have h := put_lock (s := none15 n) rfl (who := w2) (since := s2) (alone := a2) (by show (14 : Int) ≤ 1000 - (0 : Nat); decide) (by show 0 < 4096; decide)
  exact ⟨h.1, by rw [h.2]; rfl⟩
theorem one_drop : (one who since al n).drop (nameB who) = none15 (n + 1) := by
  unfold OS.drop
  rw [if_pos one_get, one_op]
  unfold one none15 delK
  simp

theorem take_first (w2 : Nat) (a2 : Bool) {now stale : Int} (hr : rightT now stale = true) : takeF w2 a2 now stale (none15 n) = (one w2 now.toNat a2 (n + 2), 0) := by
  unfold takeF takeC
  rw [if_pos hr]
  have h1 : eachW (fun o => o == w2) (stepT a2 now stale) (none15 n) false = .ok (none15 (n + 1), false) := rfl
  rw [h1]
  have h := none_put (n := n + 1) w2 now.toNat a2
  show ((none15 (n + 1)).put _ _, (none15 (n + 1)).putCode _ _) = _
  rw [h.1, h.2, Int.add_assoc]; rfl
theorem take_own (hw : who < 18446744073709551616) (a2 : Bool) {now stale : Int} (hr : rightT now stale = true) : takeF who a2 now stale (one who since al n) = (one who now.toNat a2 (n + 2), 0) := by
  unfold takeF takeC
  rw [if_pos hr]
  have h1 : eachW (fun o => o == who) (stepT a2 now stale) (one who since al n) false = .ok (one who since al (n + 1), false) := by
    unfold eachW
    rw [if_neg (by rw [code_none rfl]; decide), one_names]
    simp [eachF, parse_name hw, one_op]
  rw [h1]
  have h := one_put (n := n + 1) (who := who) (since := since) (al := al) who now.toNat a2
  show ((one who since al (n + 1)).put _ _, (one who since al (n + 1)).putCode _ _) = _
  rw [h.1, h.2 rfl, Int.add_assoc]; rfl
theorem take_shut (hw : who < 18446744073709551616) (hs : since ≤ 1125899906842624) {w2 : Nat} (hne : who ≠ w2) (a2 : Bool) {now stale : Int} (hr : rightT now stale = true) (hf : now - (since : Int) < stale) (ha : (a2 || al) = true) :
    takeF w2 a2 now stale (one who since al n) = (one who since al (n + 2), 34) := by
  unfold takeF takeC
  rw [if_pos hr]
  have h1 : eachW (fun o => o == w2) (stepT a2 now stale) (one who since al n) false = .ok (one who since al (n + 2), true) := by
    unfold eachW
    rw [if_neg (by rw [code_none rfl]; decide), one_names]
    simp only [eachF, parse_name hw, one_op, one_get, one_bytes]
    rw [if_neg (by simpa using hne), if_neg (by decide), if_neg (by decide)]
    simp only [stepT, fresh_lock hs, if_pos hf, ha]
    rw [Int.add_assoc]; rfl
  rw [h1]
  rfl
theorem take_stale (hw : who < 18446744073709551616) (hs : since ≤ 1125899906842624) {w2 : Nat} (hne : who ≠ w2) (a2 : Bool) {now stale : Int} (hr : rightT now stale = true) (hf : ¬ now - (since : Int) < stale) :
    takeF w2 a2 now stale (one who since al n) = (one w2 now.toNat a2 (n + 4), 0) := by
  unfold takeF takeC
  rw [if_pos hr]
  have h1 : eachW (fun o => o == w2) (stepT a2 now stale) (one who since al n) false = .ok (none15 (n + 3), false) := by
    unfold eachW
    rw [if_neg (by rw [code_none rfl]; decide), one_names]
    simp only [eachF, parse_name hw, one_op, one_get, one_bytes]
    rw [if_neg (by simpa using hne), if_neg (by decide), if_neg (by decide)]
    simp only [stepT, fresh_lock hs, if_neg hf, one_get, one_drop]
    rw [if_pos (.inl trivial), Int.add_assoc, Int.add_assoc]; rfl
  rw [h1]
  have h := none_put (n := n + 3) w2 now.toNat a2
  show ((none15 (n + 3)).put _ _, (none15 (n + 3)).putCode _ _) = _
  rw [h.1, h.2, Int.add_assoc]; rfl
theorem hold_one (hw : who < 18446744073709551616) (hs : since ≤ 1125899906842624) {now stale : Int} (hr : rightT now stale = true) (hf : now - (since : Int) < stale) :
    holdF now stale (one who since al n) = (one who since al (n + 2), [who], 0) := by
  unfold holdF
  rw [if_pos hr]
  have h1 : eachW (fun _ => false) (stepH now stale) (one who since al n) [] = .ok (one who since al (n + 2), [who]) := by
    unfold eachW
    rw [if_neg (by rw [code_none rfl]; decide), one_names]
    simp only [eachF, parse_name hw, one_op, one_get, one_bytes]
    rw [if_neg (by decide), if_neg (by decide), if_neg (by decide)]
    simp only [stepH, fresh_lock hs, if_pos hf]
    rw [Int.add_assoc]; rfl
  rw [h1]
end
end Go.Proofs.Ytlajejbglpggeaa

/-! coldstorelaw15.LockStales: true, of all numbers and times. -/
namespace Go.Proofs.Ytlajejbglpggeaa
open Go.RowKit Go.Proofs Go.Lib

theorem one_ops {who since : Nat} {al : Bool} {n : Int} : (one who since al n).ops = n := rfl
theorem len_ls {w0 w : World} {sb : Nat} {S : Nat → Prop} {s : OS} (h : LS w0 w sb S s) : Calls Try.prog 14 #[.pointer (some ⟨sb, 0, none⟩)] w fun e w' => e = .returned (.int .i64 s.row.length) ∧ w = w' := h.st.len

set_option maxRecDepth 100000 in
set_option maxHeartbeats 4000000 in
theorem stales_any (a b : Nat) (ha : a < 18446744073709551616) (hb : b < 18446744073709551616) (stale later : Int) (w : World) :
    Calls Try.prog 5 #[.int .u64 a, .int .u64 b, .int .i64 stale, .int .i64 later] w fun e w' => e = .returned (.bool true) ∧ Keep (fun _ => False) w w' := by
  by_cases hab : a = b
  · subst hab
    have hq : ((a : Int) == (a : Int)) = true := by simp
    go_enter Try.func5, Try.ntmps5
    go_wp2_with fail
    refine (alive15_any _).mono ?_
    rintro e w1 ⟨rfl, k1⟩
    have K1 := Lib.hid k1
    clear k1
    go_wp2
    go_ret
    exact ⟨rfl, K1.out⟩
  · obtain ⟨k, hk, -, hk0, hk1⟩ := mask_in 10 (by decide) 1023 (by decide) stale
    obtain ⟨j, hj, -, hj0, hj1⟩ := mask_in 11 (by decide) 2047 (by decide) later
    have hk1 : k ≤ 1023 := by simpa using hk1
    have hj1 : j ≤ 2047 := by simpa using hj1
    have hq1 : ((a : Int) == (b : Int)) = false := by rw [beq_eq_false_iff_ne]; omega
    have hq2 : (a == b) = false := by rw [beq_eq_false_iff_ne]; exact hab
    obtain ⟨ev, hev⟩ : ∃ e, e = (bits .and .i64 j 1 == 0) := ⟨_, rfl⟩
    obtain ⟨st, hst⟩ : ∃ x, x = 1 + k := ⟨_, rfl⟩
    have hst1 : 1 ≤ st ∧ st ≤ 1024 := by omega
    obtain ⟨hs1, hs2⟩ := hst1
    have HAB := Lib.hid hab; have HST := Lib.hid hst
    have hst' := hst.symm
    have hev' := hev.symm
    clear hab hst hev
    have HR7 := Lib.hid (show rightT 7 st = true by unfold rightT; simp; omega)
    have HRJ := Lib.hid (show rightT (7 + j) st = true by unfold rightT; simp; omega)
    have h7 : ((7 : Int).toNat) = 7 := rfl
    have hjn : ((7 + j).toNat : Int) = 7 + j := by omega
    have HJN := Lib.hid hjn
    by_cases hlt : j < st
    · have HLT := Lib.hid (show (7 + j) - ((7 : Nat) : Int) < st by omega)
      have hd1 : decide (st ≤ j) = false := decide_eq_false (by omega)
      have hd2 : ¬ st ≤ j := by omega
      go_enter Try.func5, Try.ntmps5
      go_wp2_with fail
      refine (alive15_any _).mono ?_
      rintro e w1 ⟨rfl, k1⟩
      have K1 := Lib.hid k1
      clear k1
      go_wp2_with fail
      refine (new_any 1000 _ (by decide) (by decide)).mono ?_
      rintro e w2 ⟨sb, rfl, hs2, k2⟩
      have H2 := Lib.hid (LS.new hs2 k2)
      clear hs2 k2
      have T1 := Lib.hid (show Calls Try.prog 11 #[.pointer (some ⟨sb, 0, none⟩), .int .u64 a, .bool true, .int .i64 (7), .int .i64 st] _ fun e w' => e = .returned (.int .i64 0) ∧ ∃ S', LS w1 w' sb S' (one a 7 true 2) from by
        have := take_ls (s := none15 0) H2.out rfl (by decide) a ha true (7) st
        rw [take_first a true HR7.out] at this
        exact this)
      go_wp2_with fail
      refine T1.out.mono ?_
      rintro e w3 ⟨rfl, S3, h3⟩
      have H3 := Lib.hid h3
      clear h3
      have T2 := Lib.hid (show Calls Try.prog 11 #[.pointer (some ⟨sb, 0, none⟩), .int .u64 b, .bool ev, .int .i64 (7 + j), .int .i64 st] _ fun e w' => e = .returned (.int .i64 34) ∧ ∃ S', LS w1 w' sb S' (one a 7 true 4) from by
        have := take_ls H3.out rfl (by rw [one_ops]; decide) b hb ev (7 + j) st
        rw [take_shut ha (by decide) HAB.out ev HRJ.out HLT.out (by simp)] at this
        exact this)
      go_wp2_with fail
      refine T2.out.mono ?_
      rintro e w4 ⟨rfl, S4, h4⟩
      have H4 := Lib.hid h4
      clear h4
      have T3 := Lib.hid (hold_ls H4.out rfl (by rw [one_ops]; decide) (7 + j) st)
      rw [hold_one ha (by decide) HRJ.out HLT.out] at T3
      go_wp2_with fail
      refine T3.out.mono ?_
      rintro e w5 ⟨v, rfl, h5, hv, -⟩
      obtain ⟨lb, lo, vc, ev5, lv1, lv2⟩ := Sl.base hv (by simp)
      subst ev5
      have c5 : w5.cell? ⟨lb, lo, none⟩ = some (.int .u64 a) := Sl.at1 (k := 0) hv rfl
      have H5 := Lib.hid h5
      clear h5 hv
      have T4 := Lib.hid (show Calls Try.prog 11 #[.pointer (some ⟨sb, 0, none⟩), .int .u64 a, .bool true, .int .i64 (7 + j), .int .i64 st] _ fun e w' => e = .returned (.int .i64 0) ∧ ∃ S', LS w1 w' sb S' (one a (7 + j).toNat true 8) from by
        have := take_ls H5.out rfl (by rw [one_ops]; decide) a ha true (7 + j) st
        rw [take_own ha true HRJ.out] at this
        exact this)
      go_wp2_with fail
      refine T4.out.mono ?_
      rintro e w6 ⟨rfl, S6, h6⟩
      have H6 := Lib.hid h6
      clear h6
      go_wp2_with fail
      refine (len_ls H6.out).mono ?_
      rintro e w7 ⟨rfl, rfl⟩
      go_wp2
      go_ret
      exact ⟨rfl, K1.out.trans H6.out.keep⟩
    · have HLT := Lib.hid (show ¬ (7 + j) - ((7 : Nat) : Int) < st by omega)
      have hd1 : decide (st ≤ j) = true := decide_eq_true (by omega)
      have hd2 : st ≤ j := by omega
      have hba1 : ((b : Int) == (a : Int)) = false := by rw [beq_eq_false_iff_ne]; have := HAB.out; omega
      go_enter Try.func5, Try.ntmps5
      go_wp2_with fail
      refine (alive15_any _).mono ?_
      rintro e w1 ⟨rfl, k1⟩
      have K1 := Lib.hid k1
      clear k1
      go_wp2_with fail
      refine (new_any 1000 _ (by decide) (by decide)).mono ?_
      rintro e w2 ⟨sb, rfl, hs2, k2⟩
      have H2 := Lib.hid (LS.new hs2 k2)
      clear hs2 k2
      have T1 := Lib.hid (show Calls Try.prog 11 #[.pointer (some ⟨sb, 0, none⟩), .int .u64 a, .bool true, .int .i64 (7), .int .i64 st] _ fun e w' => e = .returned (.int .i64 0) ∧ ∃ S', LS w1 w' sb S' (one a 7 true 2) from by
        have := take_ls (s := none15 0) H2.out rfl (by decide) a ha true (7) st
        rw [take_first a true HR7.out] at this
        exact this)
      go_wp2_with fail
      refine T1.out.mono ?_
      rintro e w3 ⟨rfl, S3, h3⟩
      have H3 := Lib.hid h3
      clear h3
      have T2 := Lib.hid (show Calls Try.prog 11 #[.pointer (some ⟨sb, 0, none⟩), .int .u64 b, .bool ev, .int .i64 (7 + j), .int .i64 st] _ fun e w' => e = .returned (.int .i64 0) ∧ ∃ S', LS w1 w' sb S' (one b (7 + j).toNat ev 6) from by
        have := take_ls H3.out rfl (by rw [one_ops]; decide) b hb ev (7 + j) st
        rw [take_stale (since := 7) ha (by decide) HAB.out ev HRJ.out (by have := HLT.out; omega)] at this
        exact this)
      go_wp2_with fail
      refine T2.out.mono ?_
      rintro e w4 ⟨rfl, S4, h4⟩
      have H4 := Lib.hid h4
      clear h4
      have T3 := Lib.hid (hold_ls H4.out rfl (by rw [one_ops]; decide) (7 + j) st)
      rw [hold_one hb (by omega) HRJ.out (by omega)] at T3
      go_wp2_with fail
      refine T3.out.mono ?_
      rintro e w5 ⟨v, rfl, h5, hv, -⟩
      obtain ⟨lb, lo, vc, ev5, lv1, lv2⟩ := Sl.base hv (by simp)
      subst ev5
      have c5 : w5.cell? ⟨lb, lo, none⟩ = some (.int .u64 b) := Sl.at1 (k := 0) hv rfl
      have H5 := Lib.hid h5
      clear h5 hv
      have T4 := Lib.hid (show Calls Try.prog 11 #[.pointer (some ⟨sb, 0, none⟩), .int .u64 b, .bool true, .int .i64 (7 + j), .int .i64 st] _ fun e w' => e = .returned (.int .i64 0) ∧ ∃ S', LS w1 w' sb S' (one b (7 + j).toNat true 10) from by
        have := take_ls H5.out rfl (by rw [one_ops]; decide) b hb true (7 + j) st
        rw [take_own hb true HRJ.out] at this
        exact this)
      go_wp2_with fail
      refine T4.out.mono ?_
      rintro e w6 ⟨rfl, S6, h6⟩
      have H6 := Lib.hid h6
      clear h6
      go_wp2_with fail
      refine (len_ls H6.out).mono ?_
      rintro e w7 ⟨rfl, rfl⟩
      go_wp2
      go_ret
      exact ⟨rfl, K1.out.trans H6.out.keep⟩
theorem stales_at {w : World} (a : Nat) (ha : a < 18446744073709551616) (b : Nat) (hb : b < 18446744073709551616) (stale : Int) (_hs : -9223372036854775808 ≤ stale ∧ stale ≤ 9223372036854775807) (later : Int) (_hl : -9223372036854775808 ≤ later ∧ later ≤ 9223372036854775807) :
    Calls Try.prog 5 #[.int .u64 a, .int .u64 b, .int .i64 stale, .int .i64 later] w fun e w' => e = .returned (.bool true) ∧ Keep (fun _ => False) w w' := stales_any a b ha hb stale later w
theorem wf_u64 {n : Int} (h : (Lit.int .u64 n).wf = true) : ∃ m : Nat, n = (m : Int) ∧ m < 18446744073709551616 := by
  have h1 : IntKind.u64.min = 0 := rfl
  have h2 : IntKind.u64.max = 18446744073709551615 := rfl
  simp only [Lit.wf, Bool.and_eq_true, decide_eq_true_eq] at h
  rw [h1, h2] at h
  exact ⟨n.toNat, by omega, by omega⟩
end Go.Proofs.Ytlajejbglpggeaa
