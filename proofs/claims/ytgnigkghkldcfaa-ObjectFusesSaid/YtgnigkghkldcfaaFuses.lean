/-
  coldstorelaw06.ObjectFuses: true, of all steps.
-/
import Derived.Test.YtgnigkghkldcfaaCopies
import Derived.Test.YtgnigkghkldcfaaOps6
import Derived.Test.YtgnigkghkldcfaaSameL
import Derived.Deep.OwnRows
import Derived.Laws.BitsLemmas
namespace Go.Proofs.Ytgnigkghkldcfaa
open Go.RowKit Go.Proofs Go.Lib

/-- the store with a fuse, and faults that are none -/
def fs (row : List (Bs × Bs)) (i k : Nat) : OS := { row := row, quota := 5000, ops := i, left := 1000 - i, faults := List.replicate (k - i) false }

theorem fs_code (row : List (Bs × Bs)) (i k : Nat) : (fs row i k).code = 0 := by
  unfold OS.code fs
  cases h : k - i with
  | zero => rfl
  | succ m => simp [List.replicate_succ]
theorem fs_op (row : List (Bs × Bs)) (i k : Nat) (h : i < 1000) : (fs row i k).op = fs row (i + 1) k := by
  unfold OS.op fs
  have e1 : decF (1000 - (i : Int)) = 1000 - ((i + 1 : Nat) : Int) := by unfold decF; rw [if_pos (by omega)]; omega
  have e2 : (List.replicate (k - i) false).tail = List.replicate (k - (i + 1)) false := by simp [Nat.sub_sub]
  simp only [e1, e2]
  rfl
theorem fs_putCode (row : List (Bs × Bs)) (i k : Nat) (nm b : Bs) : (fs row i k).putCode nm b = (cs 5000 row i).putCode nm b := by
  unfold OS.putCode
  rw [fs_code, cs_code]
  rfl
theorem fs_getCode (row : List (Bs × Bs)) (i k : Nat) (nm : Bs) : (fs row i k).getCode nm = (cs 5000 row i).getCode nm := by
  unfold OS.getCode
  rw [fs_code, cs_code]
  rfl
def putRow (row : List (Bs × Bs)) (i : Nat) (nm b : Bs) : List (Bs × Bs) := if (cs 5000 row i).putCode nm b = 0 then putK nm b row else row
theorem cs_putRow (row : List (Bs × Bs)) (i : Nat) (nm b : Bs) : (cs 5000 row i).put nm b = cs 5000 (putRow row i nm b) (i + 1 : Nat) := by
  unfold putRow
  split
  · rename_i h; exact cs_put h
  · rename_i h; exact cs_put_no h
theorem fs_putRow (row : List (Bs × Bs)) (i k : Nat) (nm b : Bs) (h : i < 1000) : (fs row i k).put nm b = fs (putRow row i nm b) (i + 1) k := by
  unfold putRow OS.put
  rw [fs_putCode, fs_op _ _ _ h]
  split <;> rfl
def dropRow (row : List (Bs × Bs)) (i : Nat) (nm : Bs) : List (Bs × Bs) := if (cs 5000 row i).getCode nm = 0 then delK nm row else row
theorem cs_dropRow (row : List (Bs × Bs)) (i : Nat) (nm : Bs) : (cs 5000 row i).drop nm = cs 5000 (dropRow row i nm) (i + 1 : Nat) := by
  unfold dropRow OS.drop
  split <;> rfl
theorem fs_dropRow (row : List (Bs × Bs)) (i k : Nat) (nm : Bs) (h : i < 1000) : (fs row i k).drop nm = fs (dropRow row i nm) (i + 1) k := by
  unfold dropRow OS.drop
  rw [fs_getCode, fs_op _ _ _ h]
  split <;> rfl

/-- two stores, apart -/
structure Two (w : World) (sa sb : Nat) (f : Value) (Sa Sb : Nat → Prop) (A B : OS) (W : World) : Prop where
  a : St W sa (.pointer none) Sa A
  b : St W sb f Sb B
  dis : ∀ x, Sa x → ¬ Sb x
  lowa : ∀ x, Sa x → w.heap.size ≤ x
  lowb : ∀ x, Sb x → w.heap.size ≤ x
  keep : Keep (fun _ => False) w W

section
variable {w : World} {sa sb : Nat} {f f' : Value} {Sa Sb S' : Nat → Prop} {A B A' B' : OS} {W W' : World}
theorem Two.still (t : Two w sa sb f Sa Sb A B W) (hk : Keep (fun _ => False) W W') : Two w sa sb f Sa Sb A B W' := ⟨t.a.keep0 hk, t.b.keep0 hk, t.dis, t.lowa, t.lowb, t.keep.trans hk⟩
theorem Two.turnA (t : Two w sa sb f Sa Sb A B W) (h : St W' sa (.pointer none) S' A') (ht : Turn Sa S' W W') : Two w sa sb f S' Sb A' B W' :=
  ⟨h, t.b.keep ht.keep t.dis, fun x e e2 => (ht.grow x e).elim (fun e => t.dis x e e2) (fun e => by have := t.b.lt x e2; omega), fun x e => (ht.grow x e).elim (t.lowa x) (fun e => Nat.le_trans t.keep.size e), t.lowb,
    t.keep.trans' ht.keep (fun _ _ e => e) (fun i hi e => by have := t.lowa i e; omega)⟩
theorem Two.turnB (t : Two w sa sb f Sa Sb A B W) (h : St W' sb f S' B') (ht : Turn Sb S' W W') : Two w sa sb f Sa S' A B' W' :=
  ⟨t.a.keep ht.keep (fun x e e2 => t.dis x e2 e), h, fun x e e2 => (ht.grow x e2).elim (t.dis x e) (fun e2 => by have := t.a.lt x e; omega), t.lowa, fun x e => (ht.grow x e).elim (t.lowb x) (fun e => Nat.le_trans t.keep.size e),
    t.keep.trans' ht.keep (fun _ _ e => e) (fun i hi e => by have := t.lowb i e; omega)⟩
theorem Two.arm {e : Ending} (t : Two w sa sb f Sa Sb A B W) (h : ArmSt sb f' Sb B' W e W') (hf : ∀ x, vblk f' = some x → ¬ Sa x ∧ w.heap.size ≤ x) : ∃ S', e = .returned (.tuple #[]) ∧ Two w sa sb f' Sa S' A B' W' := by
  obtain ⟨S', e1, h1, hk, hg⟩ := h
  refine ⟨S', e1, t.a.keep hk (fun x e e2 => t.dis x e2 (by rw [e]; exact t.b.self)), h1, fun x e e2 => ?_, t.lowa, fun x e => ?_, t.keep.trans' hk (fun _ _ e => e) (fun i hi e => by have := t.lowb sb t.b.self; omega)⟩
  · rcases hg x e2 with h | h | h
    · exact t.dis x e h
    · exact (hf x h).1 e
    · have := t.a.lt x e; omega
  · rcases hg x e with h | h | h
    · exact t.lowb x h
    · exact (hf x h).2
    · exact Nat.le_trans t.keep.size h
end

theorem mask63 (n : Int) : ∃ k : Nat, bits .and .i64 n 63 = (k : Int) ∧ k ≤ 63 := by
  refine ⟨(BitVec.ofInt 64 n &&& BitVec.ofInt 64 63).toNat, ?_, ?_⟩
  · have h : (BitVec.ofInt 64 n &&& BitVec.ofInt 64 63).toNat ≤ 63 := by
      rw [BitVec.toNat_and]
      exact Nat.le_trans Nat.and_le_right (by decide)
    show IntKind.i64.wrap ((BitVec.ofInt 64 n &&& BitVec.ofInt 64 63).toNat : Int) = _
    rw [IntKind.wrap_i64]
    omega
  · rw [BitVec.toNat_and]
    exact Nat.le_trans Nat.and_le_right (by decide)

theorem fuse_ne_store {W : World} {sb fb : Nat} {f : Value} {S : Nat → Prop} {s : OS} {n : Int} (h : St W sb f S s) (hF : FuseAt W fb n) : fb ≠ sb := by
  rintro rfl
  obtain ⟨G, h1, _⟩ := h
  have := hF.1.symm.trans h1.blk
  simp at this

theorem bools_made (W : World) (l : List Bool) (n : Nat) (hn : l.length = n) (hm : n ≤ maxLen) : Sl (W.alloc (.cells (l.map Value.bool).toArray 4)) 1 (.slice (some ⟨W.heap.size, 0, none⟩) n n) n (l.map .bool) := by
  subst hn
  refine ⟨by simp, _, _, rfl, Nat.le_refl _, hm, (fun e => by cases e), fun _ => ⟨_, 0, rfl, fun j _ => ?_⟩⟩
  rw [cell_blk (alloc_new _ _), Nat.zero_add]; simp

/-- within a step's region: x, y: whether the first, the second store has had its step -/
structure FuseB (w : World) (sa sb ob : Nat) (f : Value) (Sa Sb : Nat → Prop) (cells : Array Value) (row rowN : List (Bs × Bs)) (i k : Nat) (x y : Bool) (W : World) : Prop where
  t : Two w sa sb f Sa Sb (if x then cs 5000 rowN (i + 1 : Nat) else cs 5000 row i) (if y then fs rowN (i + 1) k else fs row i k) W
  box : W.heap[ob]? = some (.cells cells 38 (0, 0))
  na : ¬ Sa ob
  nb : ¬ Sb ob
section
variable {w : World} {sa sb ob : Nat} {f : Value} {Sa Sb S' : Nat → Prop} {cells : Array Value} {row rowN : List (Bs × Bs)} {i k : Nat} {x y : Bool} {W W' : World}
theorem FuseB.one (j : FuseB w sa sb ob f Sa Sb cells row rowN i k false y W) (h : St W' sa (.pointer none) S' (cs 5000 rowN (i + 1 : Nat))) (ht : Turn Sa S' W W') : FuseB w sa sb ob f S' Sb cells row rowN i k true y W' :=
  ⟨j.t.turnA h ht, ht.keep.heap j.box j.na, ht.not j.na (lt_blk j.box), j.nb⟩
theorem FuseB.two (j : FuseB w sa sb ob f Sa Sb cells row rowN i k x false W) (h : St W' sb f S' (fs rowN (i + 1) k)) (ht : Turn Sb S' W W') : FuseB w sa sb ob f Sa S' cells row rowN i k x true W' :=
  ⟨j.t.turnB h ht, ht.keep.heap j.box j.nb, j.na, ht.not j.nb (lt_blk j.box)⟩
end

set_option maxRecDepth 100000 in
set_option maxHeartbeats 4000000 in
theorem fuses_short {w : World} {v : Value} {L : List (Op6 × Value)} (hO : OpsAt w v L) (hf : fewB (L.map (·.1)) = true) (n : Int) (hn : -9223372036854775808 ≤ n ∧ n ≤ 9223372036854775807) :
    Calls Try.prog 7 #[v, .int .i64 n] w fun e w' => e = .returned (.bool true) ∧ Keep (fun _ => False) w w' := by
  obtain ⟨va, vc, rfl⟩ : ∃ p k, v = .slice p L.length k := let ⟨_, p, k, e, _⟩ := hO.row; ⟨p, k, e⟩
  have HO := Lib.hid hO; clear hO
  have HF := Lib.hid hf; clear hf
  go_enter Try.func7, Try.ntmps7
  go_wp2_with fail
  refine (alive_any w).mono ?_
  rintro e w1 ⟨rfl, k1⟩
  go_wp2_with fail
  refine (few_any (HO.out.keep k1 (fun _ _ e => e))).mono ?_
  rintro e w2 ⟨rfl, k2⟩
  rw [HF.out]
  go_wp2_with fail
  refine (new_any 5000 _ (by decide) (by decide)).mono ?_
  rintro e w3 ⟨sa, rfl, ha3, k3⟩
  go_wp2_with fail
  refine (new_any 5000 _ (by decide) (by decide)).mono ?_
  rintro e w4 ⟨sb, rfl, hb4, k4⟩
  have ha4 := ha3.keep0 k4
  go_wp2_with fail
  refine (newFuse_any 1000 _ (by decide) (by decide)).mono ?_
  rintro e w5 ⟨rfl, hF5, k5⟩
  have T5 : Two w sa sb (.pointer none) (fun b => w2.heap.size ≤ b ∧ b < w3.heap.size) (fun b => w3.heap.size ≤ b ∧ b < w4.heap.size) (OS.new 5000) (OS.new 5000) w5 :=
    ⟨ha4.keep0 k5, hb4.keep0 k5, fun x e e2 => by omega, fun x e => by have := (k1.trans k2).size; omega, fun x e => by have := ((k1.trans k2).trans k3).size; omega, (((k1.trans k2).trans k3).trans k4).trans k5⟩
  have hfa : ∀ x, vblk (.pointer (some ⟨w4.heap.size, 0, none⟩)) = some x → ¬ (w2.heap.size ≤ x ∧ x < w3.heap.size) ∧ w.heap.size ≤ x := fun x e => by
    simp only [vblk, Option.some.injEq] at e
    have := k4.size; have := ((k1.trans k2).trans k3).size
    exact ⟨by omega, by omega⟩
  have T6 := T5.still ((Keep.refl _ _).alloc (.cells #[.bool true, .bool true] 4))
  have hv6 := bools_made w5 [true, true] 2 rfl (by decide)
  have hF6 : FuseAt (w5.alloc (.cells #[.bool true, .bool true] 4)) w4.heap.size 1000 := FuseAt.keep hF5 ((Keep.refl (fun _ => False) _).alloc _) id
  clear ha3 hb4 ha4 k1 k2 k3 k4 k5 T5 hF5
  go_wp2_with fail
  refine (arm_any T6.b (.pointer none) (-1) (.inl ⟨rfl, rfl⟩) _ [true, true] hv6 (by decide)).mono ?_
  rintro e w7 hA
  have hF7 : FuseAt w7 w4.heap.size 1000 := by
    obtain ⟨_, _, _, hk, _⟩ := hA
    exact hF6.keep hk (fun e => fuse_ne_store T6.b hF6 e)
  obtain ⟨S7, rfl, T7⟩ := T6.arm hA (fun x e => by simp [vblk] at e)
  clear T6 hv6 hF6 hA
  obtain ⟨k, hk63, hk⟩ := mask63 n
  have hmk := run_make_row' (P := Try.prog) 22 4 (.bool false) 1 Try.underlying22 info_bool rfl .i64 .i64 k (by omega) (by omega)
  have hmade : madeCells #[Value.bool false] k = ((List.replicate k false).map Value.bool).toArray := by
    apply Array.ext
    · simp [madeCells]
    · intro i h1 h2
      simp [madeCells, Nat.mod_one]
  have T8 := T7.still ((Keep.refl _ _).alloc (.cells (madeCells #[Value.bool false] k) 4))
  have hv8 := bools_made w7 (List.replicate k false) k (by simp) (by unfold maxLen; omega)
  rw [← hmade] at hv8
  have hF8 : FuseAt (w7.alloc (.cells (madeCells #[Value.bool false] k) 4)) w4.heap.size 1000 := FuseAt.keep hF7 ((Keep.refl (fun _ => False) _).alloc _) id
  clear hmade T7 hF7
  go_wp2_with fail
  refine (arm_any T8.b (.pointer (some ⟨w4.heap.size, 0, none⟩)) 1000 (.inr ⟨_, rfl, hF8⟩) _ (List.replicate k false) (by rw [List.length_replicate]; exact hv8) (by rw [List.length_replicate]; omega)).mono ?_
  rintro e w9 hA
  obtain ⟨S9, rfl, T9⟩ := T8.arm hA hfa
  have T9 : Two w sa sb (.pointer (some ⟨w4.heap.size, 0, none⟩)) (fun b => w2.heap.size ≤ b ∧ b < w3.heap.size) S9 (cs 5000 [] 0) (fs [] 0 k) w9 := T9
  obtain ⟨fb, hfb⟩ : ∃ fb, fb = w4.heap.size := ⟨_, rfl⟩
  obtain ⟨S8, hS8⟩ : ∃ S : Nat → Prop, S = fun b => w2.heap.size ≤ b ∧ b < w3.heap.size := ⟨_, rfl⟩
  rw [← hS8] at T9
  rw [← hfb] at T9 ⊢
  clear T8 hv8 hF8 hA hmk hk63 hfa hS8 hfb
  obtain ⟨N, hN⟩ : ∃ N : Nat, N = L.length := ⟨_, rfl⟩
  have HN := Lib.hid hN
  have hN60 : N ≤ 60 := by
    have := HF.out
    unfold fewB at this
    simp at this
    omega
  rw [← hN]
  clear hN
  go_wp2
  go_loopg [43] N (fun g v43 wr => ∃ (i : Nat) (row : List (Bs × Bs)) (Sa Sb : Nat → Prop), i ≤ N ∧ g = N - i ∧ v43 = .int .i64 i ∧ Two w sa sb (.pointer (some ⟨fb, 0, none⟩)) Sa Sb (cs 5000 row i) (fs row i k) wr)
  case atStart => exact ⟨0, [], S8, S9, Nat.zero_le _, rfl, rfl, T9⟩
  case round =>
    obtain ⟨i, row, Sa, Sb, hi, hg, rfl, T⟩ := hrel
    by_cases hlt : i < N
    · obtain ⟨p, hp⟩ : ∃ p, L[i]? = some p := ⟨_, List.getElem?_eq_getElem (by rw [← HN.out]; exact hlt)⟩
      have hOr := HO.out.keep T.keep (fun _ _ e => e)
      obtain ⟨vb, vo, vc', ev, v1, v2⟩ := Sl.base HO.out.row (by rw [← HN.out]; omega)
      cases ev
      obtain ⟨c0, c1, c2⟩ := hOr.cells hp
      have hpb := HO.out.bytes p (List.mem_of_getElem? hp)
      have hps : shortOp p.1 = true := by
        have := HF.out
        unfold fewB at this
        rw [Bool.and_eq_true] at this
        exact List.all_eq_true.1 this.1 _ (List.mem_map.2 ⟨_, List.mem_of_getElem? hp, rfl⟩)
      obtain ⟨⟨kind, name, bs⟩, bv⟩ := p
      obtain ⟨ba, bc, rfl⟩ : ∃ a c, bv = .slice a bs.length c := let ⟨_, a, c, e, _⟩ := hpb; ⟨a, c, e⟩
      simp only [strV] at c1
      unfold shortOp at hps
      simp at hps
      rw [← HN.out] at v1
      unfold maxLen at v2
      have HG := Lib.hid hg
      clear hg hOr hp T9
      by_cases hkd : kind = 3
      · subst hkd
        obtain ⟨c, hc⟩ : ∃ c, c = (cs 5000 row i).getCode name := ⟨_, rfl⟩
        have HCC := Lib.hid hc; clear hc
        go_wp2_with fail
        refine region_inv' (fun a0 listed a W' => ∃ (b0 b1 b2 b3 b4 b5 b6 b7 b8 b9 : Bool) (q50 q51 q52 q53 q54 q55 q56 q57 q12 q13 : Value) (Sa Sb : Nat → Prop), listed = #[b0, b1, b2, b3, b4, b5, b6, b7, b8, b9] ∧
            a = { a0 with tmps := (((((((((a0.tmps.setIfInBounds 50 q50).setIfInBounds 51 q51).setIfInBounds 52 q52).setIfInBounds 53 q53).setIfInBounds 54 q54).setIfInBounds 55 q55).setIfInBounds 56 q56).setIfInBounds 57 q57).setIfInBounds 12 q12).setIfInBounds 13 q13 } ∧
            (b0 = true → q50 = .pointer (some ⟨sa, 0, none⟩)) ∧ (b1 = true → q51 = .pointer (some ⟨wr.heap.size, 1, none⟩)) ∧ (b2 = true → q52 = .string ⟨name.toArray⟩) ∧ (b3 = true → q53 = .int .i64 c) ∧
            (b4 = true → q54 = .pointer (some ⟨sb, 0, none⟩)) ∧ (b5 = true → q55 = .pointer (some ⟨wr.heap.size, 1, none⟩)) ∧ (b6 = true → q56 = .string ⟨name.toArray⟩) ∧ (b7 = true → q57 = .int .i64 c) ∧
            (b8 = true → q12 = .int .i64 c) ∧ (b9 = true → q13 = .int .i64 c) ∧
            FuseB w sa sb wr.heap.size (.pointer (some ⟨fb, 0, none⟩)) Sa Sb #[.int .i64 3, .string ⟨name.toArray⟩, .slice ba bs.length bc] row (dropRow row i name) i k b3 b7 W') (by kernel_rfl) ?h0 ?hs ?hd
        case h0 =>
          refine ⟨false, false, false, false, false, false, false, false, false, false, u50, u51, u52, u53, u54, u55, u56, u57,   .int .i64 0, .int .i64 0, Sa, Sb, rfl, (by simp only [List.setIfInBounds_toArray, List.set_cons_zero, List.set_cons_succ]), (fun e => by cases e), (fun e => by cases e), (fun e => by cases e), (fun e => by cases e), (fun e => by cases e), (fun e => by cases e), (fun e => by cases e), (fun e => by cases e), (fun e => by cases e), (fun e => by cases e), ?_⟩
          refine ⟨T.still (((Keep.refl _ _).alloc _).drew), alloc_new _ _, fun e => ?_, fun e => ?_⟩
          · have := T.a.lt _ e; omega
          · have := T.b.lt _ e; omega
        case hs =>
          rintro _ _ W1 ⟨b0, b1, b2, b3, b4, b5, b6, b7, b8, b9, q50, q51, q52, q53, q54, q55, q56, q57, q12, q13, Sa', Sb', rfl, rfl, m0, m1, m2, m3, m4, m5, m6, m7, m8, m9, j⟩ x hx
          obtain ⟨hun, o, ho, hall⟩ := mem_ready.1 hx
          clear hx
          have hxl : x < 10 := (Array.getElem?_eq_some_iff.1 ho).1
          simp only [List.setIfInBounds_toArray, List.set_cons_zero, List.set_cons_succ]
          have M0 := Lib.hid m0; have M1 := Lib.hid m1; have M2 := Lib.hid m2; have M3 := Lib.hid m3; have M4 := Lib.hid m4; have M5 := Lib.hid m5; have M6 := Lib.hid m6; have M7 := Lib.hid m7; have M8 := Lib.hid m8; have M9 := Lib.hid m9
          clear m0 m1 m2 m3 m4 m5 m6 m7 m8 m9
          match x, hxl with
          | 0, _ =>
            simp at ho hun
            subst ho; subst hun
            refine opStep_step rfl (fun K hK => ?_)
            have HK := Lib.hid hK; clear hK
            go_simp
            exact HK.out _ _ ⟨true, _, _, _, _, _, _, _, _, _, _, _, _, _, _, _, _, _, _, _, _, _, rfl, (by with_reducible rfl), fun _ => rfl, M1.out, M2.out, M3.out, M4.out, M5.out, M6.out, M7.out, M8.out, M9.out, j⟩
          | 1, _ =>
            simp at ho hun
            subst ho; subst hun
            refine opStep_step rfl (fun K hK => ?_)
            have HK := Lib.hid hK; clear hK
            go_simp
            exact HK.out _ _ ⟨_, true, _, _, _, _, _, _, _, _, _, _, _, _, _, _, _, _, _, _, _, _, rfl, (by with_reducible rfl), M0.out, fun _ => rfl, M2.out, M3.out, M4.out, M5.out, M6.out, M7.out, M8.out, M9.out, j⟩
          | 2, _ =>
            simp at ho hun
            subst ho; subst hun
            have e1 := hall ⟨1, .data⟩ (by simp) rfl
            simp at e1
            subst e1
            have q := M1.out rfl
            subst q
            have cb := cell_blk j.box 1
            simp at cb
            refine opStep_step rfl (fun K hK => ?_)
            have HK := Lib.hid hK; clear hK
            go_simp
            exact HK.out _ _ ⟨_, _, true, _, _, _, _, _, _, _, _, _, _, _, _, _, _, _, _, _, _, _, rfl, (by with_reducible rfl), M0.out, M1.out, fun _ => rfl, M3.out, M4.out, M5.out, M6.out, M7.out, M8.out, M9.out, j⟩
          | 3, _ =>
            simp at ho hun
            subst ho; subst hun
            have e0 := hall ⟨0, .data⟩ (by simp) rfl
            have e2 := hall ⟨2, .data⟩ (by simp) rfl
            simp at e0 e2
            subst e0; subst e2
            have q := M0.out rfl
            subst q
            have q := M2.out rfl
            subst q
            refine opStep_step rfl (fun K hK => ?_)
            have HK := Lib.hid hK; clear hK
            go_simp
            have hst := j.t.a
            simp only [Bool.false_eq_true, if_false] at hst
            refine (hst.drop (cs_left _ _ _) (cs_ops _ _ _ (by omega)) ⟨name.toArray⟩ (by unfold maxLen; simp [ByteArray.size]; omega)).mono ?_
            rintro e W2 ⟨rfl, h2, t2⟩
            change St W2 sa _ Sa' ((cs 5000 row i).drop name) at h2
            rw [cs_dropRow] at h2
            have ec : (cs 5000 row i).getCode (⟨name.toArray⟩ : ByteArray).data.toList = c := HCC.out.symm
            rw [ec]
            exact HK.out _ _ ⟨_, _, _, true, _, _, _, _, _, _, _, _, _, _, _, _, _, _, _, _, _, _, rfl, (by with_reducible rfl), M0.out, M1.out, M2.out, fun _ => rfl, M4.out, M5.out, M6.out, M7.out, M8.out, M9.out, j.one h2 t2⟩
          | 4, _ =>
            simp at ho hun
            subst ho; subst hun
            refine opStep_step rfl (fun K hK => ?_)
            have HK := Lib.hid hK; clear hK
            go_simp
            exact HK.out _ _ ⟨_, _, _, _, true, _, _, _, _, _, _, _, _, _, _, _, _, _, _, _, _, _, rfl, (by with_reducible rfl), M0.out, M1.out, M2.out, M3.out, fun _ => rfl, M5.out, M6.out, M7.out, M8.out, M9.out, j⟩
          | 5, _ =>
            simp at ho hun
            subst ho; subst hun
            refine opStep_step rfl (fun K hK => ?_)
            have HK := Lib.hid hK; clear hK
            go_simp
            exact HK.out _ _ ⟨_, _, _, _, _, true, _, _, _, _, _, _, _, _, _, _, _, _, _, _, _, _, rfl, (by with_reducible rfl), M0.out, M1.out, M2.out, M3.out, M4.out, fun _ => rfl, M6.out, M7.out, M8.out, M9.out, j⟩
          | 6, _ =>
            simp at ho hun
            subst ho; subst hun
            have e5 := hall ⟨5, .data⟩ (by simp) rfl
            simp at e5
            subst e5
            have q := M5.out rfl
            subst q
            have cb := cell_blk j.box 1
            simp at cb
            refine opStep_step rfl (fun K hK => ?_)
            have HK := Lib.hid hK; clear hK
            go_simp
            exact HK.out _ _ ⟨_, _, _, _, _, _, true, _, _, _, _, _, _, _, _, _, _, _, _, _, _, _, rfl, (by with_reducible rfl), M0.out, M1.out, M2.out, M3.out, M4.out, M5.out, fun _ => rfl, M7.out, M8.out, M9.out, j⟩
          | 7, _ =>
            simp at ho hun
            subst ho; subst hun
            have e0 := hall ⟨4, .data⟩ (by simp) rfl
            have e2 := hall ⟨6, .data⟩ (by simp) rfl
            simp at e0 e2
            subst e0; subst e2
            have q := M4.out rfl
            subst q
            have q := M6.out rfl
            subst q
            refine opStep_step rfl (fun K hK => ?_)
            have HK := Lib.hid hK; clear hK
            go_simp
            have hst := j.t.b
            simp only [Bool.false_eq_true, if_false] at hst
            refine (hst.drop (by show (1000 : Int) - i ≠ 0; omega) (by show (i : Int) < _; omega) ⟨name.toArray⟩ (by unfold maxLen; simp [ByteArray.size]; omega)).mono ?_
            rintro e W2 ⟨rfl, h2, t2⟩
            change St W2 sb _ Sb' ((fs row i k).drop name) at h2
            rw [fs_dropRow _ _ _ _ (by omega)] at h2
            have ec : (fs row i k).getCode (⟨name.toArray⟩ : ByteArray).data.toList = c := (fs_getCode _ _ _ _).trans HCC.out.symm
            rw [ec]
            exact HK.out _ _ ⟨_, _, _, _, _, _, _, true, _, _, _, _, _, _, _, _, _, _, _, _, _, _, rfl, (by with_reducible rfl), M0.out, M1.out, M2.out, M3.out, M4.out, M5.out, M6.out, fun _ => rfl, M8.out, M9.out, j.two h2 t2⟩
          | 8, _ =>
            simp at ho hun
            subst ho; subst hun
            have e3 := hall ⟨3, .data⟩ (by simp) rfl
            simp at e3
            subst e3
            have q := M3.out rfl
            subst q
            refine opStep_step rfl (fun K hK => ?_)
            have HK := Lib.hid hK; clear hK
            go_simp
            exact HK.out _ _ ⟨_, _, _, _, _, _, _, _, true, _, _, _, _, _, _, _, _, _, _, _, _, _, rfl, (by with_reducible rfl), M0.out, M1.out, M2.out, M3.out, M4.out, M5.out, M6.out, M7.out, fun _ => rfl, M9.out, j⟩
          | 9, _ =>
            simp at ho hun
            subst ho; subst hun
            have e7 := hall ⟨7, .data⟩ (by simp) rfl
            simp at e7
            subst e7
            have q := M7.out rfl
            subst q
            refine opStep_step rfl (fun K hK => ?_)
            have HK := Lib.hid hK; clear hK
            go_simp
            exact HK.out _ _ ⟨_, _, _, _, _, _, _, _, _, true, _, _, _, _, _, _, _, _, _, _, _, _, rfl, (by with_reducible rfl), M0.out, M1.out, M2.out, M3.out, M4.out, M5.out, M6.out, M7.out, M8.out, fun _ => rfl, j⟩
        case hd =>
          rintro _ _ W1 ⟨b0, b1, b2, b3, b4, b5, b6, b7, b8, b9, q50, q51, q52, q53, q54, q55, q56, q57, q12, q13, Sa', Sb', rfl, rfl, -, -, -, -, -, -, -, -, m8, m9, j⟩ hr
          have hn : ∀ x, x ∈ Region.ready .any _ _ → False := fun x hx => by rw [hr] at hx; cases hx
          have t0 : b0 = true := by cases b0; exact (hn 0 (mem_ready.2 ⟨rfl, _, rfl, by simp⟩)).elim; rfl
          subst t0
          have t0 : b1 = true := by cases b1; exact (hn 1 (mem_ready.2 ⟨rfl, _, rfl, by simp⟩)).elim; rfl
          subst t0
          have t0 : b2 = true := by cases b2; exact (hn 2 (mem_ready.2 ⟨rfl, _, rfl, by simp⟩)).elim; rfl
          subst t0
          have t0 : b3 = true := by cases b3; exact (hn 3 (mem_ready.2 ⟨rfl, _, rfl, by simp⟩)).elim; rfl
          subst t0
          have t0 : b4 = true := by cases b4; exact (hn 4 (mem_ready.2 ⟨rfl, _, rfl, by simp⟩)).elim; rfl
          subst t0
          have t0 : b5 = true := by cases b5; exact (hn 5 (mem_ready.2 ⟨rfl, _, rfl, by simp⟩)).elim; rfl
          subst t0
          have t0 : b6 = true := by cases b6; exact (hn 6 (mem_ready.2 ⟨rfl, _, rfl, by simp⟩)).elim; rfl
          subst t0
          have t0 : b7 = true := by cases b7; exact (hn 7 (mem_ready.2 ⟨rfl, _, rfl, by simp⟩)).elim; rfl
          subst t0
          have t0 : b8 = true := by cases b8; exact (hn 8 (mem_ready.2 ⟨rfl, _, rfl, by simp⟩)).elim; rfl
          subst t0
          have t0 : b9 = true := by cases b9; exact (hn 9 (mem_ready.2 ⟨rfl, _, rfl, by simp⟩)).elim; rfl
          subst t0
          clear hn hr
          have q := m8 rfl
          subst q
          have q := m9 rfl
          subst q
          have T2 : Two w sa sb (.pointer (some ⟨fb, 0, none⟩)) Sa' Sb' (cs 5000 (dropRow row i name) (i + 1 : Nat)) (fs (dropRow row i name) (i + 1) k) W1 := by simpa using j.t
          clear m8 m9 j T
          simp only [List.setIfInBounds_toArray, List.set_cons_zero, List.set_cons_succ]
          go_wp2
          go_roundg (N - (i + 1))
          case measure => have := HG.out; omega
          case rel => exact ⟨i + 1, dropRow row i name, Sa', Sb', by omega, rfl, by go_num, T2⟩
      · have hkd' : (kind == 3) = false := by simpa using hkd
        obtain ⟨c, hc⟩ : ∃ c, c = (cs 5000 row i).putCode name bs := ⟨_, rfl⟩
        have HCC := Lib.hid hc; clear hc
        have hB1 := hpb
        go_wp2_with fail
        refine region_inv' (fun a0 listed a W' => ∃ (b0 b1 b2 b3 b4 b5 b6 b7 b8 b9 b10 b11 b12 b13 : Bool) (q58 q59 q60 q61 q62 q63 q64 q65 q66 q67 q68 q69 q12 q13 : Value) (Sa Sb : Nat → Prop), listed = #[b0, b1, b2, b3, b4, b5, b6, b7, b8, b9, b10, b11, b12, b13] ∧
            a = { a0 with tmps := ((((((((((((((a0.tmps.setIfInBounds 58 q58).setIfInBounds 59 q59).setIfInBounds 60 q60).setIfInBounds 61 q61).setIfInBounds 62 q62).setIfInBounds 63 q63).setIfInBounds 64 q64).setIfInBounds 65 q65).setIfInBounds 66 q66).setIfInBounds 67 q67).setIfInBounds 68 q68).setIfInBounds 69 q69).setIfInBounds 12 q12).setIfInBounds 13 q13) } ∧
            (b0 = true → q58 = .pointer (some ⟨sa, 0, none⟩)) ∧ (b1 = true → q59 = .pointer (some ⟨wr.heap.size, 1, none⟩)) ∧ (b2 = true → q60 = .string ⟨name.toArray⟩) ∧ (b3 = true → q61 = .pointer (some ⟨wr.heap.size, 2, none⟩)) ∧ (b4 = true → q62 = .slice ba bs.length bc) ∧ (b5 = true → q63 = .int .i64 c) ∧ (b6 = true → q64 = .pointer (some ⟨sb, 0, none⟩)) ∧ (b7 = true → q65 = .pointer (some ⟨wr.heap.size, 1, none⟩)) ∧ (b8 = true → q66 = .string ⟨name.toArray⟩) ∧ (b9 = true → q67 = .pointer (some ⟨wr.heap.size, 2, none⟩)) ∧ (b10 = true → q68 = .slice ba bs.length bc) ∧ (b11 = true → q69 = .int .i64 c) ∧ (b12 = true → q12 = .int .i64 c) ∧ (b13 = true → q13 = .int .i64 c) ∧
            FuseB w sa sb wr.heap.size (.pointer (some ⟨fb, 0, none⟩)) Sa Sb #[.int .i64 kind, .string ⟨name.toArray⟩, .slice ba bs.length bc] row (putRow row i name bs) i k b5 b11 W') (by kernel_rfl) ?h0 ?hs ?hd
        case h0 =>
          refine ⟨false, false, false, false, false, false, false, false, false, false, false, false, false, false, u58, u59, u60, u61, u62, u63, u64, u65, u66, u67, u68, u69, .int .i64 0, .int .i64 0, Sa, Sb, rfl, (by simp only [List.setIfInBounds_toArray, List.set_cons_zero, List.set_cons_succ]), (fun e => by cases e), (fun e => by cases e), (fun e => by cases e), (fun e => by cases e), (fun e => by cases e), (fun e => by cases e), (fun e => by cases e), (fun e => by cases e), (fun e => by cases e), (fun e => by cases e), (fun e => by cases e), (fun e => by cases e), (fun e => by cases e), (fun e => by cases e), ?_⟩
          refine ⟨T.still (((Keep.refl _ _).alloc _).drew), alloc_new _ _, fun e => ?_, fun e => ?_⟩
          · have := T.a.lt _ e; omega
          · have := T.b.lt _ e; omega
        case hs =>
          rintro _ _ W1 ⟨b0, b1, b2, b3, b4, b5, b6, b7, b8, b9, b10, b11, b12, b13, q58, q59, q60, q61, q62, q63, q64, q65, q66, q67, q68, q69, q12, q13, Sa', Sb', rfl, rfl, m0, m1, m2, m3, m4, m5, m6, m7, m8, m9, m10, m11, m12, m13, j⟩ x hx
          obtain ⟨hun, o, ho, hall⟩ := mem_ready.1 hx
          clear hx
          have hxl : x < 14 := (Array.getElem?_eq_some_iff.1 ho).1
          simp only [List.setIfInBounds_toArray, List.set_cons_zero, List.set_cons_succ]
          have M0 := Lib.hid m0; have M1 := Lib.hid m1; have M2 := Lib.hid m2; have M3 := Lib.hid m3; have M4 := Lib.hid m4; have M5 := Lib.hid m5; have M6 := Lib.hid m6; have M7 := Lib.hid m7; have M8 := Lib.hid m8; have M9 := Lib.hid m9; have M10 := Lib.hid m10; have M11 := Lib.hid m11; have M12 := Lib.hid m12; have M13 := Lib.hid m13
          clear m0 m1 m2 m3 m4 m5 m6 m7 m8 m9 m10 m11 m12 m13
          match x, hxl with
          | 0, _ =>
            simp at ho hun
            subst ho; subst hun
            refine opStep_step rfl (fun K hK => ?_)
            have HK := Lib.hid hK; clear hK
            go_simp
            exact HK.out _ _ ⟨true, _, _, _, _, _, _, _, _, _, _, _, _, _, _, _, _, _, _, _, _, _, _, _, _, _, _, _, _, _, rfl, (by with_reducible rfl), fun _ => rfl, M1.out, M2.out, M3.out, M4.out, M5.out, M6.out, M7.out, M8.out, M9.out, M10.out, M11.out, M12.out, M13.out, j⟩
          | 1, _ =>
            simp at ho hun
            subst ho; subst hun
            refine opStep_step rfl (fun K hK => ?_)
            have HK := Lib.hid hK; clear hK
            go_simp
            exact HK.out _ _ ⟨_, true, _, _, _, _, _, _, _, _, _, _, _, _, _, _, _, _, _, _, _, _, _, _, _, _, _, _, _, _, rfl, (by with_reducible rfl), M0.out, fun _ => rfl, M2.out, M3.out, M4.out, M5.out, M6.out, M7.out, M8.out, M9.out, M10.out, M11.out, M12.out, M13.out, j⟩
          | 2, _ =>
            simp at ho hun
            subst ho; subst hun
            have e1 := hall ⟨1, .data⟩ (by simp) rfl
            simp at e1
            subst e1
            have q := M1.out rfl
            subst q
            have cb := cell_blk j.box 1
            simp at cb
            refine opStep_step rfl (fun K hK => ?_)
            have HK := Lib.hid hK; clear hK
            go_simp
            exact HK.out _ _ ⟨_, _, true, _, _, _, _, _, _, _, _, _, _, _, _, _, _, _, _, _, _, _, _, _, _, _, _, _, _, _, rfl, (by with_reducible rfl), M0.out, M1.out, fun _ => rfl, M3.out, M4.out, M5.out, M6.out, M7.out, M8.out, M9.out, M10.out, M11.out, M12.out, M13.out, j⟩
          | 3, _ =>
            simp at ho hun
            subst ho; subst hun
            refine opStep_step rfl (fun K hK => ?_)
            have HK := Lib.hid hK; clear hK
            go_simp
            exact HK.out _ _ ⟨_, _, _, true, _, _, _, _, _, _, _, _, _, _, _, _, _, _, _, _, _, _, _, _, _, _, _, _, _, _, rfl, (by with_reducible rfl), M0.out, M1.out, M2.out, fun _ => rfl, M4.out, M5.out, M6.out, M7.out, M8.out, M9.out, M10.out, M11.out, M12.out, M13.out, j⟩
          | 4, _ =>
            simp at ho hun
            subst ho; subst hun
            have e3 := hall ⟨3, .data⟩ (by simp) rfl
            simp at e3
            subst e3
            have q := M3.out rfl
            subst q
            have cb := cell_blk j.box 2
            simp at cb
            refine opStep_step rfl (fun K hK => ?_)
            have HK := Lib.hid hK; clear hK
            go_simp
            exact HK.out _ _ ⟨_, _, _, _, true, _, _, _, _, _, _, _, _, _, _, _, _, _, _, _, _, _, _, _, _, _, _, _, _, _, rfl, (by with_reducible rfl), M0.out, M1.out, M2.out, M3.out, fun _ => rfl, M5.out, M6.out, M7.out, M8.out, M9.out, M10.out, M11.out, M12.out, M13.out, j⟩
          | 5, _ =>
            simp at ho hun
            subst ho; subst hun
            have e0 := hall ⟨0, .data⟩ (by simp) rfl
            simp at e0
            subst e0
            have e2 := hall ⟨2, .data⟩ (by simp) rfl
            simp at e2
            subst e2
            have e4 := hall ⟨4, .data⟩ (by simp) rfl
            simp at e4
            subst e4
            have q := M0.out rfl
            subst q
            have q := M2.out rfl
            subst q
            have q := M4.out rfl
            subst q
            refine opStep_step rfl (fun K hK => ?_)
            have HK := Lib.hid hK; clear hK
            go_simp
            have hst := j.t.a
            simp only [Bool.false_eq_true, if_false] at hst
            have hbw : BytesAt W1 (.slice ba bs.length bc) bs := Sl.keep hB1 j.t.keep (fun _ _ _ e => e)
            refine (hst.put (cs_left _ _ _) (cs_ops _ _ _ (by omega)) ⟨name.toArray⟩ (by unfold maxLen; simp [ByteArray.size]; omega) _ bs hbw (by omega)).mono ?_
            rintro e W2 ⟨S2, rfl, h2, t2⟩
            change St W2 sa _ S2 ((cs 5000 row i).put name bs) at h2
            rw [cs_putRow] at h2
            have ec : (cs 5000 row i).putCode (⟨name.toArray⟩ : ByteArray).data.toList bs = c := HCC.out.symm
            rw [ec]
            exact HK.out _ _ ⟨_, _, _, _, _, true, _, _, _, _, _, _, _, _, _, _, _, _, _, _, _, _, _, _, _, _, _, _, _, _, rfl, (by with_reducible rfl), M0.out, M1.out, M2.out, M3.out, M4.out, fun _ => rfl, M6.out, M7.out, M8.out, M9.out, M10.out, M11.out, M12.out, M13.out, j.one h2 t2⟩
          | 6, _ =>
            simp at ho hun
            subst ho; subst hun
            refine opStep_step rfl (fun K hK => ?_)
            have HK := Lib.hid hK; clear hK
            go_simp
            exact HK.out _ _ ⟨_, _, _, _, _, _, true, _, _, _, _, _, _, _, _, _, _, _, _, _, _, _, _, _, _, _, _, _, _, _, rfl, (by with_reducible rfl), M0.out, M1.out, M2.out, M3.out, M4.out, M5.out, fun _ => rfl, M7.out, M8.out, M9.out, M10.out, M11.out, M12.out, M13.out, j⟩
          | 7, _ =>
            simp at ho hun
            subst ho; subst hun
            refine opStep_step rfl (fun K hK => ?_)
            have HK := Lib.hid hK; clear hK
            go_simp
            exact HK.out _ _ ⟨_, _, _, _, _, _, _, true, _, _, _, _, _, _, _, _, _, _, _, _, _, _, _, _, _, _, _, _, _, _, rfl, (by with_reducible rfl), M0.out, M1.out, M2.out, M3.out, M4.out, M5.out, M6.out, fun _ => rfl, M8.out, M9.out, M10.out, M11.out, M12.out, M13.out, j⟩
          | 8, _ =>
            simp at ho hun
            subst ho; subst hun
            have e7 := hall ⟨7, .data⟩ (by simp) rfl
            simp at e7
            subst e7
            have q := M7.out rfl
            subst q
            have cb := cell_blk j.box 1
            simp at cb
            refine opStep_step rfl (fun K hK => ?_)
            have HK := Lib.hid hK; clear hK
            go_simp
            exact HK.out _ _ ⟨_, _, _, _, _, _, _, _, true, _, _, _, _, _, _, _, _, _, _, _, _, _, _, _, _, _, _, _, _, _, rfl, (by with_reducible rfl), M0.out, M1.out, M2.out, M3.out, M4.out, M5.out, M6.out, M7.out, fun _ => rfl, M9.out, M10.out, M11.out, M12.out, M13.out, j⟩
          | 9, _ =>
            simp at ho hun
            subst ho; subst hun
            refine opStep_step rfl (fun K hK => ?_)
            have HK := Lib.hid hK; clear hK
            go_simp
            exact HK.out _ _ ⟨_, _, _, _, _, _, _, _, _, true, _, _, _, _, _, _, _, _, _, _, _, _, _, _, _, _, _, _, _, _, rfl, (by with_reducible rfl), M0.out, M1.out, M2.out, M3.out, M4.out, M5.out, M6.out, M7.out, M8.out, fun _ => rfl, M10.out, M11.out, M12.out, M13.out, j⟩
          | 10, _ =>
            simp at ho hun
            subst ho; subst hun
            have e9 := hall ⟨9, .data⟩ (by simp) rfl
            simp at e9
            subst e9
            have q := M9.out rfl
            subst q
            have cb := cell_blk j.box 2
            simp at cb
            refine opStep_step rfl (fun K hK => ?_)
            have HK := Lib.hid hK; clear hK
            go_simp
            exact HK.out _ _ ⟨_, _, _, _, _, _, _, _, _, _, true, _, _, _, _, _, _, _, _, _, _, _, _, _, _, _, _, _, _, _, rfl, (by with_reducible rfl), M0.out, M1.out, M2.out, M3.out, M4.out, M5.out, M6.out, M7.out, M8.out, M9.out, fun _ => rfl, M11.out, M12.out, M13.out, j⟩
          | 11, _ =>
            simp at ho hun
            subst ho; subst hun
            have e6 := hall ⟨6, .data⟩ (by simp) rfl
            simp at e6
            subst e6
            have e8 := hall ⟨8, .data⟩ (by simp) rfl
            simp at e8
            subst e8
            have e10 := hall ⟨10, .data⟩ (by simp) rfl
            simp at e10
            subst e10
            have q := M6.out rfl
            subst q
            have q := M8.out rfl
            subst q
            have q := M10.out rfl
            subst q
            refine opStep_step rfl (fun K hK => ?_)
            have HK := Lib.hid hK; clear hK
            go_simp
            have hst := j.t.b
            simp only [Bool.false_eq_true, if_false] at hst
            have hbw : BytesAt W1 (.slice ba bs.length bc) bs := Sl.keep hB1 j.t.keep (fun _ _ _ e => e)
            refine (hst.put (by show (1000 : Int) - i ≠ 0; omega) (by show (i : Int) < _; omega) ⟨name.toArray⟩ (by unfold maxLen; simp [ByteArray.size]; omega) _ bs hbw (by omega)).mono ?_
            rintro e W2 ⟨S2, rfl, h2, t2⟩
            change St W2 sb _ S2 ((fs row i k).put name bs) at h2
            rw [fs_putRow _ _ _ _ _ (by omega)] at h2
            have ec : (fs row i k).putCode (⟨name.toArray⟩ : ByteArray).data.toList bs = c := (fs_putCode _ _ _ _ _).trans HCC.out.symm
            rw [ec]
            exact HK.out _ _ ⟨_, _, _, _, _, _, _, _, _, _, _, true, _, _, _, _, _, _, _, _, _, _, _, _, _, _, _, _, _, _, rfl, (by with_reducible rfl), M0.out, M1.out, M2.out, M3.out, M4.out, M5.out, M6.out, M7.out, M8.out, M9.out, M10.out, fun _ => rfl, M12.out, M13.out, j.two h2 t2⟩
          | 12, _ =>
            simp at ho hun
            subst ho; subst hun
            have e5 := hall ⟨5, .data⟩ (by simp) rfl
            simp at e5
            subst e5
            have q := M5.out rfl
            subst q
            refine opStep_step rfl (fun K hK => ?_)
            have HK := Lib.hid hK; clear hK
            go_simp
            exact HK.out _ _ ⟨_, _, _, _, _, _, _, _, _, _, _, _, true, _, _, _, _, _, _, _, _, _, _, _, _, _, _, _, _, _, rfl, (by with_reducible rfl), M0.out, M1.out, M2.out, M3.out, M4.out, M5.out, M6.out, M7.out, M8.out, M9.out, M10.out, M11.out, fun _ => rfl, M13.out, j⟩
          | 13, _ =>
            simp at ho hun
            subst ho; subst hun
            have e11 := hall ⟨11, .data⟩ (by simp) rfl
            simp at e11
            subst e11
            have q := M11.out rfl
            subst q
            refine opStep_step rfl (fun K hK => ?_)
            have HK := Lib.hid hK; clear hK
            go_simp
            exact HK.out _ _ ⟨_, _, _, _, _, _, _, _, _, _, _, _, _, true, _, _, _, _, _, _, _, _, _, _, _, _, _, _, _, _, rfl, (by with_reducible rfl), M0.out, M1.out, M2.out, M3.out, M4.out, M5.out, M6.out, M7.out, M8.out, M9.out, M10.out, M11.out, M12.out, fun _ => rfl, j⟩
        case hd =>
          rintro _ _ W1 ⟨b0, b1, b2, b3, b4, b5, b6, b7, b8, b9, b10, b11, b12, b13, q58, q59, q60, q61, q62, q63, q64, q65, q66, q67, q68, q69, q12, q13, Sa', Sb', rfl, rfl, -, -, -, -, -, -, -, -, -, -, -, -, m12, m13, j⟩ hr
          have hn : ∀ x, x ∈ Region.ready .any _ _ → False := fun x hx => by rw [hr] at hx; cases hx
          have t0 : b0 = true := by cases b0; exact (hn 0 (mem_ready.2 ⟨rfl, _, rfl, by simp⟩)).elim; rfl
          subst t0
          have t0 : b1 = true := by cases b1; exact (hn 1 (mem_ready.2 ⟨rfl, _, rfl, by simp⟩)).elim; rfl
          subst t0
          have t0 : b2 = true := by cases b2; exact (hn 2 (mem_ready.2 ⟨rfl, _, rfl, by simp⟩)).elim; rfl
          subst t0
          have t0 : b3 = true := by cases b3; exact (hn 3 (mem_ready.2 ⟨rfl, _, rfl, by simp⟩)).elim; rfl
          subst t0
          have t0 : b4 = true := by cases b4; exact (hn 4 (mem_ready.2 ⟨rfl, _, rfl, by simp⟩)).elim; rfl
          subst t0
          have t0 : b5 = true := by cases b5; exact (hn 5 (mem_ready.2 ⟨rfl, _, rfl, by simp⟩)).elim; rfl
          subst t0
          have t0 : b6 = true := by cases b6; exact (hn 6 (mem_ready.2 ⟨rfl, _, rfl, by simp⟩)).elim; rfl
          subst t0
          have t0 : b7 = true := by cases b7; exact (hn 7 (mem_ready.2 ⟨rfl, _, rfl, by simp⟩)).elim; rfl
          subst t0
          have t0 : b8 = true := by cases b8; exact (hn 8 (mem_ready.2 ⟨rfl, _, rfl, by simp⟩)).elim; rfl
          subst t0
          have t0 : b9 = true := by cases b9; exact (hn 9 (mem_ready.2 ⟨rfl, _, rfl, by simp⟩)).elim; rfl
          subst t0
          have t0 : b10 = true := by cases b10; exact (hn 10 (mem_ready.2 ⟨rfl, _, rfl, by simp⟩)).elim; rfl
          subst t0
          have t0 : b11 = true := by cases b11; exact (hn 11 (mem_ready.2 ⟨rfl, _, rfl, by simp⟩)).elim; rfl
          subst t0
          have t0 : b12 = true := by cases b12; exact (hn 12 (mem_ready.2 ⟨rfl, _, rfl, by simp⟩)).elim; rfl
          subst t0
          have t0 : b13 = true := by cases b13; exact (hn 13 (mem_ready.2 ⟨rfl, _, rfl, by simp⟩)).elim; rfl
          subst t0
          clear hn hr
          have q := m12 rfl
          subst q
          have q := m13 rfl
          subst q
          have T2 : Two w sa sb (.pointer (some ⟨fb, 0, none⟩)) Sa' Sb' (cs 5000 (putRow row i name bs) (i + 1 : Nat)) (fs (putRow row i name bs) (i + 1) k) W1 := by simpa using j.t
          clear m12 m13 j T
          simp only [List.setIfInBounds_toArray, List.set_cons_zero, List.set_cons_succ]
          go_wp2
          go_roundg (N - (i + 1))
          case measure => have := HG.out; omega
          case rel => exact ⟨i + 1, putRow row i name bs, Sa', Sb', by omega, rfl, by go_num, T2⟩
    · have hiN : i = N := by omega
      subst hiN
      clear hg hlt hi
      have hu : fs row i k = { (cs 5000 row i) with left := 1000 - i, faults := List.replicate (k - i) false } := rfl
      have HU := Lib.hid hu; clear hu
      go_wp2_with fail
      refine (names_any T.a 1000 (by decide) (by decide)).mono ?_
      rintro e W1 ⟨x, y, rfl, hx, hy, -, -, hk1⟩
      have T1 := T.still hk1
      obtain ⟨xa, xn, xc, rfl⟩ : ∃ a n c, x = .slice a n c := let ⟨_, a, c, e, _⟩ := hx; ⟨a, _, c, e⟩
      obtain ⟨ya, yn, yc, rfl⟩ : ∃ a n c, y = .slice a n c := let ⟨_, a, c, e, _⟩ := hy; ⟨a, _, c, e⟩
      have HX := Lib.hid hx; have HY := Lib.hid hy
      clear hx hy T hk1
      go_wp2_with fail
      refine (names_any T1.b 1000 (by decide) (by decide)).mono ?_
      rintro e W2 ⟨u, v, rfl, hu, hv, -, -, hk2⟩
      have T2 := T1.still hk2
      have hx2 : StrsAt W2 _ _ := Sl.keep HX.out hk2 (fun _ _ _ e => e)
      have hy2 : IntsAt W2 _ _ := Sl.keep HY.out hk2 (fun _ _ _ e => e)
      have es : (fs row i k).some 1000 = (cs 5000 row i).some 1000 := rfl
      rw [es] at hu hv
      have h1 := sameStrings_any hx2 hu
      rw [decide_eq_true rfl] at h1
      obtain ⟨ua, un, uc, rfl⟩ : ∃ a n c, u = .slice a n c := let ⟨_, a, c, e, _⟩ := hu; ⟨a, _, c, e⟩
      obtain ⟨va', vn', vc', rfl⟩ : ∃ a n c, v = .slice a n c := let ⟨_, a, c, e, _⟩ := hv; ⟨a, _, c, e⟩
      have HV := Lib.hid hv; have HY2 := Lib.hid hy2
      clear HX HY hx2 hy2 hu hv T1 hk2 es
      go_wp2_with fail
      refine h1.mono ?_
      rintro e W3 ⟨rfl, hk3⟩
      have T3 := T2.still hk3
      have h2 := sameInts_any (Sl.keep HY2.out hk3 (fun _ _ _ e => e) : IntsAt W3 _ _) (Sl.keep HV.out hk3 (fun _ _ _ e => e) : IntsAt W3 _ _)
      rw [decide_eq_true rfl] at h2
      clear h1 HY2 HV T2 hk3
      go_wp2_with fail
      refine h2.mono ?_
      rintro e W4 ⟨rfl, hk4⟩
      have T4 := T3.still hk4
      have hF4 : FuseAt W4 fb (1000 - i) := by
        rcases T4.b.fuse with ⟨e, _⟩ | ⟨fb', e, h⟩
        · cases e
        · cases e; exact h
      clear h2 T3 hk4
      go_wp2_with fail
      refine (left_any fb _ W4 hF4).mono ?_
      rintro e W5 ⟨rfl, rfl⟩
      go_wp2_with fail
      refine (T4.b.ops).mono ?_
      rintro e W5 ⟨rfl, rfl⟩
      have eo : (fs row i k).ops = i := rfl
      rw [eo]
      go_wp2_with fail
      refine (T4.a.ops).mono ?_
      rintro e W5 ⟨rfl, rfl⟩
      have eo : (cs 5000 row i).ops = i := rfl
      rw [eo]
      go_wp2
      go_ret
      exact ⟨rfl, T4.keep⟩
end Go.Proofs.Ytgnigkghkldcfaa
