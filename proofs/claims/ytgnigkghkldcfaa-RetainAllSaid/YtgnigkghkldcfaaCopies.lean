/-
  coldstorelaw06.ObjectCopies: true, of all bytes.
-/
import Derived.Test.YtgnigkghkldcfaaAlive
import Derived.Lib.SliceRun
namespace Go.Proofs.Ytgnigkghkldcfaa
open Go.RowKit Go.Proofs Go.Lib

/-! ### clear of a row of the call's own -/
theorem setCells_keep {F : Nat → Prop} {w : World} (b : Nat) (hb : F b) : ∀ (vs : List Value) (o : Nat) (w' : World), Keep F w w' → Keep F w (w'.setCells b o vs)
  | [], _, _, h => h
  | v :: r, o, _, h => setCells_keep b hb r (o + 1) _ (h.setCell (p := ⟨b, o, none⟩) (fun _ => hb) v)

theorem zero_byte (w : World) : (zeroValue 5).run Try.prog w = .ok (.int .u8 0) w := by
  simp [zeroValue, go_sem]
  rfl

theorem clear_own {W : World} {base : Nat} {v : Value} {n : Nat} {xs : List Value} (h : W.ownsRow base 5 1 v n xs) : ∃ W', (∀ ty, (Builtin.clear_ #[36] ty #[v]).run Try.prog W = .ok (.tuple #[]) W') ∧ Keep (fun k => vblk v = some k) W W' := by
  rcases h.2 with ⟨rfl, rfl⟩ | ⟨g, cap, cur, rfl, hg, hh, hc, hm, hs, ht⟩
  · exact ⟨W, fun ty => by simp [Builtin.clear_, go_sem], Keep.refl _ _⟩
  · by_cases h0 : n = 0
    · subst h0
      exact ⟨W, fun ty => by simp [Builtin.clear_, go_sem], Keep.refl _ _⟩
    · refine ⟨W.setCells g 0 (List.replicate n (.int .u8 0)), fun ty => ?_, setCells_keep (F := fun k => vblk (.slice (some ⟨g, 0, none⟩) n cap) = some k) g rfl _ _ _ (Keep.refl _ _)⟩
      refine run_clear_slice W 36 5 ty (.int .u8 0) Try.underlying36 zero_byte rfl rfl g 0 n cap (by omega) (fun j hj => ?_) (fun j _ => frozen_blk hh _)
      rw [cell_blk hh, Nat.zero_add, Array.getElem?_eq_getElem (by omega)]
      rfl

/-! ### the store's states -/
/-- a store without a fuse, or faults -/
def cs (q : Int) (row : List (Bs × Bs)) (k : Int) : OS := { row := row, quota := q, ops := k, left := -1, faults := [] }
theorem cs_new (q : Int) : OS.new q = cs q [] 0 := rfl
theorem cs_op (q : Int) (row : List (Bs × Bs)) (k : Int) : (cs q row k).op = cs q row (k + 1) := rfl
theorem cs_code (q : Int) (row : List (Bs × Bs)) (k : Int) : (cs q row k).code = 0 := rfl
theorem cs_left (q : Int) (row : List (Bs × Bs)) (k : Int) : (cs q row k).left ≠ 0 := by show (-1 : Int) ≠ 0; decide
theorem cs_ops (q : Int) (row : List (Bs × Bs)) (k : Int) (h : k < 4611686018427387904) : (cs q row k).ops < 4611686018427387904 := h
theorem cs_putCode {q : Int} {row : List (Bs × Bs)} {k : Int} {nm b : Bs} (hn : nameOK nm = true) : (cs q row k).putCode nm b = (cs q row k).roomCode nm b := by
  unfold OS.putCode
  rw [if_neg (by rw [cs_code]; decide), if_neg (by rw [hn]; decide)]
theorem cs_put {q : Int} {row : List (Bs × Bs)} {k : Int} {nm b : Bs} (hc : (cs q row k).putCode nm b = 0) : (cs q row k).put nm b = cs q (putK nm b row) (k + 1) := by
  unfold OS.put; rw [if_pos hc]; rfl
theorem cs_put_no {q : Int} {row : List (Bs × Bs)} {k : Int} {nm b : Bs} (hc : (cs q row k).putCode nm b ≠ 0) : (cs q row k).put nm b = cs q row (k + 1) := by
  unfold OS.put; rw [if_neg hc]; rfl
theorem cs_getCode {q : Int} {row : List (Bs × Bs)} {k : Int} {nm l : Bs} (h : lk row nm = some l) : (cs q row k).getCode nm = 0 ∧ (cs q row k).getBytes nm = l := by
  unfold OS.getCode OS.getBytes
  have h' : lk (cs q row k).row nm = some l := h
  have h0 : ¬ (cs q row k).code ≠ 0 := by rw [cs_code]; decide
  rw [if_neg h0, if_neg h0, h']
  exact ⟨rfl, rfl⟩

section
variable {q : Int} {b c : Bs} (hb : b.length ≤ 200) (hc : c.length ≤ 200) (hq : q = b.length + c.length)
include hb hq in
theorem co1 : (cs q [] 0).putCode [120] b = 0 := by
  rw [cs_putCode (by decide)]
  unfold OS.roomCode
  rw [if_neg (by omega), if_neg (by simp [cs, lk, sizeR]; omega), if_neg (by simp [cs])]
include hc hq in
theorem co2 : (cs q [([120], b)] 3).putCode [121] c = 0 := by
  rw [cs_putCode (by decide)]
  unfold OS.roomCode
  rw [if_neg (by omega), if_neg (by simp [cs, lk, sizeR]; omega), if_neg (by simp [cs])]
include hq in
theorem co3 : (cs q [([120], b), ([121], c)] 4).putCode [122] [1] = 31 := by
  rw [cs_putCode (by decide)]
  unfold OS.roomCode
  rw [if_neg (by decide), if_pos (by simp [cs, lk, sizeR]; omega)]
include hc hq in
theorem co4 : (cs q [([120], b), ([121], c)] 5).putCode [120] c = if c.length ≤ b.length then 0 else 31 := by
  rw [cs_putCode (by decide)]
  unfold OS.roomCode
  rw [if_neg (by omega)]
  by_cases h : c.length ≤ b.length
  · rw [if_neg (by simp [cs, lk, sizeR]; omega), if_neg (by simp [cs, lk]), if_pos h]
  · rw [if_pos (by simp [cs, lk, sizeR]; omega), if_neg h]
end
theorem pk1 (b : Bs) : putK [120] b [] = [([120], b)] := rfl
theorem pk2 (b c : Bs) : putK [121] c [([120], b)] = [([120], b), ([121], c)] := rfl

theorem bytes_made (W : World) (l : Bs) (cs : Array Value) (n : Nat) (hn : l.length = n) (hm : n ≤ maxLen) (h : bytesV l = cs.toList) : BytesAt (W.alloc (.cells cs 5)) (.slice (some ⟨W.heap.size, 0, none⟩) n n) l := by
  subst hn
  refine ⟨bytesV_length l, _, _, rfl, Nat.le_refl _, hm, (fun e => by cases e), fun _ => ⟨_, 0, rfl, fun j _ => ?_⟩⟩
  rw [cell_blk (alloc_new _ _), h, Nat.zero_add, Array.getElem?_toList]
theorem lk1 (b : Bs) : lk [(([120] : Bs), b)] [120] = some b := rfl

set_option maxRecDepth 100000 in
set_option maxHeartbeats 4000000 in
theorem copies_short {w : World} {bv cv : Value} {b c : Bs} (hB : BytesAt w bv b) (hC : BytesAt w cv c) (hb : b.length ≤ 200) (hc : c.length ≤ 200) :
    Calls Try.prog 6 #[bv, cv] w fun e w' => e = .returned (.bool true) ∧ Keep (fun _ => False) w w' := by
  obtain ⟨ba, bc, rfl⟩ : ∃ p k, bv = .slice p b.length k := let ⟨_, p, k, e, _⟩ := hB; ⟨p, k, e⟩
  obtain ⟨ca, cc, rfl⟩ : ∃ p k, cv = .slice p c.length k := let ⟨_, p, k, e, _⟩ := hC; ⟨p, k, e⟩
  obtain ⟨q, hq⟩ : ∃ q : Int, q = b.length + c.length := ⟨_, rfl⟩
  have hb' : (b.length : Int) ≤ 200 := by omega
  have hc' : (c.length : Int) ≤ 200 := by omega
  have HB := Lib.hid hB; have HC := Lib.hid hC; clear hB hC
  go_enter Try.func6, Try.ntmps6
  go_wp2_with fail
  refine (alive_any w).mono ?_
  rintro e w1 ⟨rfl, k1⟩
  go_wp2_with fail
  rw [← hq]
  refine (new_any q _ (by omega) (by omega)).mono ?_
  rintro e w2 ⟨sb, rfl, h2, k2⟩
  have hB2 : BytesAt w2 (.slice ba b.length bc) b := Sl.keep HB.out (k1.trans k2) (fun _ _ _ e => e)
  have k12 := k1.trans k2
  have hz2 := k12.size
  have hlow : ∀ x, (w1.heap.size ≤ x ∧ x < w2.heap.size) → w.heap.size ≤ x := fun x e => Nat.le_trans k1.size e.1
  go_wp2_with (at_builtin; refine wpList_append_fresh rfl _ _ rfl rfl _ rfl b hB2 (by omega) ?_; intro ov w3 hown3 hbl3)
  have h3 := h2.below hbl3
  have k13 := k12.trans (Keep.of_below hbl3 (fun _ => False))
  have hB3 : BytesAt w3 (.slice ba b.length bc) b := Sl.keep HB.out k13 (fun _ _ _ e => e)
  have ho3 := (Sl.of_owns hown3).1
  have hno3 : ∀ x, vblk ov = some x → ¬ (w1.heap.size ≤ x ∧ x < w2.heap.size) := fun x e h => by have := (own_lt hown3 x e).1; omega
  clear hB2 k1 k2 k12 h2
  go_wp2_with fail
  refine (h3.put (cs_left q [] 0) (cs_ops q [] 0 (by decide)) ⟨#[120]⟩ (by decide) ov b ho3 (by omega)).mono ?_
  rintro e w4 ⟨S4, rfl, h4, t4⟩
  have e1 : (OS.new q).putCode (⟨#[120]⟩ : ByteArray).data.toList b = 0 := co1 hb hq
  rw [e1]
  have e2 : (OS.new q).put (⟨#[120]⟩ : ByteArray).data.toList b = cs q [([120], b)] 1 := cs_put e1
  rw [e2] at h4
  have hown4 := own_keep hown3 t4.keep hno3
  have hno4 : ∀ x, vblk ov = some x → ¬ S4 x := fun x e => t4.not (hno3 x e) (own_lt hown3 x e).2
  have hlow4 : ∀ x, S4 x → w.heap.size ≤ x := fun x e => (t4.grow x e).elim (hlow x) (fun e => Nat.le_trans k13.size e)
  have k14 : Keep (fun _ => False) w w4 := k13.trans' t4.keep (fun _ _ e => e) (fun i hi e => by have := hlow i e; omega)
  have hown4l : ∀ x, vblk ov = some x → w.heap.size ≤ x := fun x e => by have := (own_lt hown4 x e).1; omega
  clear e1 e2 h3 t4 hown3 hno3 ho3 hlow k13 hB3
  obtain ⟨w5, hcl, k5⟩ := clear_own hown4
  obtain ⟨oa, oc, rfl⟩ := own_slice hown4
  go_wp2_with fail
  have h5 := h4.keep k5 (fun x e => hno4 x e)
  have k15 : Keep (fun _ => False) w w5 := k14.trans' k5 (fun _ _ e => e) (fun i hi e => by have := hown4l i e; omega)
  clear h4 k14 k5 hcl hown4 hno4 hown4l hbl3 hz2
  refine (h5.get (cs_left q _ 1) (cs_ops q _ 1 (by decide)) ⟨#[120]⟩ (by decide)).mono ?_
  rintro e w6 ⟨xv, rfl, h6, t6, ho6⟩
  have g1 := cs_getCode (q := q) (k := 1) (lk1 b)
  have e1 : (cs q [([120], b)] 1).getCode (⟨#[120]⟩ : ByteArray).data.toList = 0 := g1.1
  have e2 : (cs q [([120], b)] 1).getBytes (⟨#[120]⟩ : ByteArray).data.toList = b := g1.2
  rw [e1]
  rw [e2] at ho6
  rw [cs_op] at h6
  have k16 : Keep (fun _ => False) w w6 := k15.trans' t6.keep (fun _ _ e => e) (fun i hi e => by have := hlow4 i e; omega)
  have hx6 : BytesAt w6 xv b := (Sl.of_owns ho6).1
  have hxno : ∀ x, vblk xv = some x → ¬ S4 x := fun x e h => by have := h5.lt x h; have := (own_lt ho6 x e).1; omega
  have hxlo : ∀ x, vblk xv = some x → w.heap.size ≤ x := fun x e => by have := (own_lt ho6 x e).1; have := k15.size; omega
  clear e1 e2 g1 h5 t6 k15
  obtain ⟨xa, xc, rfl⟩ := own_slice ho6
  have hB6 : BytesAt w6 (.slice ba b.length bc) b := Sl.keep HB.out k16 (fun _ _ _ e => e)
  go_wp2_with fail
  refine (same_any hx6 hB6).mono ?_
  rintro e w6' ⟨rfl, rfl⟩
  have e1 : (b == b) = true := by simp
  rw [e1]
  obtain ⟨w7, hcl, k7⟩ := clear_own ho6
  have h7 := h6.keep k7 (fun x e => hxno x e)
  have k17 : Keep (fun _ => False) w w7 := k16.trans' k7 (fun _ _ e => e) (fun i hi e => by have := hxlo i e; omega)
  clear e1 h6 k7 k16 hx6 hB6 hxno hxlo ho6
  go_wp2_with fail
  clear hcl
  refine (h7.get (cs_left q _ 2) (cs_ops q _ 2 (by decide)) ⟨#[120]⟩ (by decide)).mono ?_
  rintro e w8 ⟨yv, rfl, h8, t8, ho8⟩
  have g1 := cs_getCode (q := q) (k := 2) (lk1 b)
  have e1 : (cs q [([120], b)] (1 + 1)).getCode (⟨#[120]⟩ : ByteArray).data.toList = 0 := g1.1
  have e2 : (cs q [([120], b)] (1 + 1)).getBytes (⟨#[120]⟩ : ByteArray).data.toList = b := g1.2
  rw [e1]
  rw [e2] at ho8
  rw [cs_op] at h8
  have h8 : St w8 sb (.pointer none) S4 (cs q [([120], b)] 3) := h8
  have k18 : Keep (fun _ => False) w w8 := k17.trans' t8.keep (fun _ _ e => e) (fun i hi e => by have := hlow4 i e; omega)
  have hy8 : BytesAt w8 yv b := (Sl.of_owns ho8).1
  have hyno : ∀ x, vblk yv = some x → ¬ S4 x := fun x e h => by have := h7.lt x h; have := (own_lt ho8 x e).1; omega
  have hyl : ∀ x, vblk yv = some x → x < w8.heap.size := fun x e => (own_lt ho8 x e).2
  obtain ⟨ya, yc, rfl⟩ := own_slice ho8
  clear e1 e2 g1 h7 t8 k17 ho8
  have hC8 : BytesAt w8 (.slice ca c.length cc) c := Sl.keep HC.out k18 (fun _ _ _ e => e)
  go_wp2_with fail
  refine (h8.put (cs_left q _ 3) (cs_ops q _ 3 (by decide)) ⟨#[121]⟩ (by decide) _ c hC8 (by omega)).mono ?_
  rintro e w9 ⟨S9, rfl, h9, t9⟩
  have e1 : (cs q [([120], b)] 3).putCode (⟨#[121]⟩ : ByteArray).data.toList c = 0 := co2 hc hq
  rw [e1]
  have e2 : (cs q [([120], b)] 3).put (⟨#[121]⟩ : ByteArray).data.toList c = cs q [([120], b), ([121], c)] 4 := cs_put e1
  rw [e2] at h9
  have k19 : Keep (fun _ => False) w w9 := k18.trans' t9.keep (fun _ _ e => e) (fun i hi e => by have := hlow4 i e; omega)
  have hlow9 : ∀ x, S9 x → w.heap.size ≤ x := fun x e => (t9.grow x e).elim (hlow4 x) (fun e => Nat.le_trans k18.size e)
  have hy9 : BytesAt w9 (.slice ya b.length yc) b := Sl.keep hy8 t9.keep (fun x _ e => hyno x e)
  have hyno9 : ∀ x, vblk (.slice ya b.length yc) = some x → ¬ S9 x := fun x e => t9.not (hyno x e) (hyl x e)
  have hyl9 : ∀ x, vblk (.slice ya b.length yc) = some x → x < w9.heap.size := fun x e => Nat.lt_of_lt_of_le (hyl x e) t9.keep.size
  clear e1 e2 h8 t9 k18 hy8 hyno hyl hC8 hlow4
  have h10 := h9.keep0 ((Keep.refl (fun _ => False) w9).alloc (.cells #[.int .u8 1] 5))
  have k20 := k19.alloc (.cells #[.int .u8 1] 5)
  have hy10 : BytesAt (w9.alloc (.cells #[.int .u8 1] 5)) (.slice ya b.length yc) b := Sl.keep hy9 ((Keep.refl (fun _ => False) w9).alloc _) (fun _ _ _ e => e)
  have hz10 := bytes_made w9 [1] #[.int .u8 1] 1 rfl (by decide) rfl
  clear hy9 h9
  go_wp2_with fail
  refine (h10.put (cs_left q _ 4) (cs_ops q _ 4 (by decide)) ⟨#[122]⟩ (by decide) _ [1] hz10 (by decide)).mono ?_
  rintro e w11 ⟨S11, rfl, h11, t11⟩
  have e1 : (cs q [([120], b), ([121], c)] 4).putCode (⟨#[122]⟩ : ByteArray).data.toList [1] = 31 := co3 hq
  rw [e1]
  have e2 : (cs q [([120], b), ([121], c)] 4).put (⟨#[122]⟩ : ByteArray).data.toList [1] = cs q [([120], b), ([121], c)] 5 := cs_put_no (by rw [e1]; decide)
  rw [e2] at h11
  have hlow10 : ∀ x, S9 x → w.heap.size ≤ x := hlow9
  have k21 : Keep (fun _ => False) w w11 := k20.trans' t11.keep (fun _ _ e => e) (fun i hi e => by have := hlow9 i e; omega)
  have hlow11 : ∀ x, S11 x → w.heap.size ≤ x := fun x e => (t11.grow x e).elim (hlow9 x) (fun e => Nat.le_trans k20.size e)
  have hy11 : BytesAt w11 (.slice ya b.length yc) b := Sl.keep hy10 t11.keep (fun x _ e => hyno9 x e)
  have hyno11 : ∀ x, vblk (.slice ya b.length yc) = some x → ¬ S11 x := fun x e => t11.not (hyno9 x e) (by have := hyl9 x e; simp; omega)
  have hC11 : BytesAt w11 (.slice ca c.length cc) c := Sl.keep HC.out k21 (fun _ _ _ e => e)
  clear e1 e2 h10 t11 k20 hy10 hz10 hyno9 hyl9 k19 hlow9 hlow10
  go_wp2_with fail
  refine (h11.put (cs_left q _ 5) (cs_ops q _ 5 (by decide)) ⟨#[120]⟩ (by decide) _ c hC11 (by omega)).mono ?_
  rintro e w12 ⟨S12, rfl, h12, t12⟩
  have e1 : (cs q [([120], b), ([121], c)] 5).putCode (⟨#[120]⟩ : ByteArray).data.toList c = if c.length ≤ b.length then 0 else 31 := co4 hc hq
  rw [e1]
  have hsz : (sizeR ((cs q [([120], b), ([121], c)] 5).put (⟨#[120]⟩ : ByteArray).data.toList c).row : Int) ≤ q := by
    have := h12.ok.size
    have e : ((cs q [([120], b), ([121], c)] 5).put (⟨#[120]⟩ : ByteArray).data.toList c).quota = q := by
      unfold OS.put; split <;> rfl
    rw [e] at this
    exact this
  have k22 : Keep (fun _ => False) w w12 := k21.trans' t12.keep (fun _ _ e => e) (fun i hi e => by have := hlow11 i e; omega)
  have hy12 : BytesAt w12 (.slice ya b.length yc) b := Sl.keep hy11 t12.keep (fun x _ e => hyno11 x e)
  have hB12 : BytesAt w12 (.slice ba b.length bc) b := Sl.keep HB.out k22 (fun _ _ _ e => e)
  have hsame := same_any hy12 hB12
  have hsize := h12.size
  clear h11 t12 k21 hy11 hyno11 hC11 hlow11 e1 h12 hy12 hB12
  obtain ⟨Z, hZ⟩ : ∃ Z, Z = sizeR ((cs q [([120], b), ([121], c)] 5).put (⟨#[120]⟩ : ByteArray).data.toList c).row := ⟨_, rfl⟩
  rw [← hZ] at hsz hsize
  rw [hq] at hsz
  clear hZ
  have e1 : (b == b) = true := by simp
  rw [e1] at hsame
  by_cases hle : c.length ≤ b.length
  · rw [if_pos hle]
    have hle' : (c.length : Int) ≤ b.length := by omega
    go_wp2_with fail
    refine hsame.mono ?_
    rintro e w13 ⟨rfl, rfl⟩
    go_wp2_with fail
    refine hsize.mono ?_
    rintro e w13 ⟨rfl, rfl⟩
    go_wp2
    go_ret
    exact ⟨rfl, k22⟩
  · rw [if_neg hle]
    have hle' : ¬ (c.length : Int) ≤ b.length := by omega
    go_wp2_with fail
    refine hsame.mono ?_
    rintro e w13 ⟨rfl, rfl⟩
    go_wp2_with fail
    refine hsize.mono ?_
    rintro e w13 ⟨rfl, rfl⟩
    go_wp2
    go_ret
    exact ⟨rfl, k22⟩

set_option maxRecDepth 100000 in
set_option maxHeartbeats 4000000 in
theorem copies_long {w : World} (ba ca : Option Addr) (bn bc cn cc : Nat) (h : ¬ (bn ≤ 200 ∧ cn ≤ 200)) :
    Calls Try.prog 6 #[.slice ba bn bc, .slice ca cn cc] w fun e w' => e = .returned (.bool true) ∧ Keep (fun _ => False) w w' := by
  by_cases hb : bn ≤ 200
  · have hb' : (bn : Int) ≤ 200 := by omega
    have hc' : ¬ (cn : Int) ≤ 200 := by omega
    go_enter Try.func6, Try.ntmps6
    go_wp2_with fail
    refine (alive_any w).mono ?_
    rintro e w1 ⟨rfl, k1⟩
    go_wp2
    go_ret
    exact ⟨rfl, k1⟩
  · have hb' : ¬ (bn : Int) ≤ 200 := by omega
    go_enter Try.func6, Try.ntmps6
    go_wp2_with fail
    refine (alive_any w).mono ?_
    rintro e w1 ⟨rfl, k1⟩
    go_wp2
    go_ret
    exact ⟨rfl, k1⟩

theorem copies_any {w : World} {bv cv : Value} {b c : Bs} (hB : BytesAt w bv b) (hC : BytesAt w cv c) :
    Calls Try.prog 6 #[bv, cv] w fun e w' => e = .returned (.bool true) ∧ Keep (fun _ => False) w w' := by
  by_cases h : b.length ≤ 200 ∧ c.length ≤ 200
  · exact copies_short hB hC h.1 h.2
  · obtain ⟨ba, bc, rfl⟩ : ∃ p k, bv = .slice p b.length k := let ⟨_, p, k, e, _⟩ := hB; ⟨p, k, e⟩
    obtain ⟨ca, cc, rfl⟩ : ∃ p k, cv = .slice p c.length k := let ⟨_, p, k, e, _⟩ := hC; ⟨p, k, e⟩
    exact copies_long _ _ _ _ _ _ h
end Go.Proofs.Ytgnigkghkldcfaa
