/-
  coldstorelaw06.ObjectCopies: true, of all bytes.
-/
import Derived.Test.YtlajejbglpggeaaAlive
import Derived.Lib.SliceRun
namespace Go.Proofs.Ytlajejbglpggeaa
open Go.RowKit Go.Proofs Go.Lib

/-! ### clear of a row of the call's own -/
theorem setCells_keep {F : Nat → Prop} {w : World} (b : Nat) (hb : F b) : ∀ (vs : List Value) (o : Nat) (w' : World), Keep F w w' → Keep F w (w'.setCells b o vs)
  | [], _, _, h => h
  | v :: r, o, _, h => setCells_keep b hb r (o + 1) _ (h.setCell (p := ⟨b, o, none⟩) (fun _ => hb) v)

theorem zero_byte (w : World) : (zeroValue 5).run Try.prog w = .ok (.int .u8 0) w := by
  simp [zeroValue, go_sem]
  rfl

theorem clear_own {W : World} {base : Nat} {v : Value} {n : Nat} {xs : List Value} (h : W.ownsRow base 5 1 v n xs) : ∃ W', (∀ ty, (Builtin.clear_ #[27] ty #[v]).run Try.prog W = .ok (.tuple #[]) W') ∧ Keep (fun k => vblk v = some k) W W' := by
  rcases h.2 with ⟨rfl, rfl⟩ | ⟨g, cap, cur, rfl, hg, hh, hc, hm, hs, ht⟩
  · exact ⟨W, fun ty => by simp [Builtin.clear_, go_sem], Keep.refl _ _⟩
  · by_cases h0 : n = 0
    · subst h0
      exact ⟨W, fun ty => by simp [Builtin.clear_, go_sem], Keep.refl _ _⟩
    · refine ⟨W.setCells g 0 (List.replicate n (.int .u8 0)), fun ty => ?_, setCells_keep (F := fun k => vblk (.slice (some ⟨g, 0, none⟩) n cap) = some k) g rfl _ _ _ (Keep.refl _ _)⟩
      refine run_clear_slice W 27 5 ty (.int .u8 0) Try.underlying27 zero_byte rfl rfl g 0 n cap (by omega) (fun j hj => ?_) (fun j _ => frozen_blk hh _)
      rw [cell_blk hh, Nat.zero_add, Array.getElem?_eq_getElem (by omega)]
      rfl

/-! ### the store's states -/
/-- a store without a fuse, or faults -/
def cs (q : Int) (row : List (Bs × Bs)) (k : Int) : OS := { row := row, quota := q, ops := k, left := -1, faults := [] }
theorem cs_new (q : Int) : OS.new q = cs q [] 0 := rfl
theorem cs_op (q : Int) (row : List (Bs × Bs)) (k : Int) : (cs q row k).op = cs q row (k + 1) := rfl
theorem cs_code (q : Int) (row : List (Bs × Bs)) (k : Int) : (cs q row k).code = 0 := rfl
theorem cs_left (q : Int) (row : List (Bs × Bs)) (k : Int) : (cs q row k).left ≠ 0 := by show (-1 : Int) ≠ 0; decide
theorem cs_ops (q : Int) (row : List (Bs × Bs)) (k : Int) (h : k < 4611686018427387904) : (cs q row k).ops < 4611686018427387904 := h
theorem cs_putCode {q : Int} {row : List (Bs × Bs)} {k : Int} {nm b : Bs} (hn : nameOK nm = true) : (cs q row k).putCode nm b = (cs q row k).roomCode nm b := by
  unfold OS.putCode
  rw [if_neg (by rw [cs_code]; decide), if_neg (by rw [hn]; decide)]
theorem cs_put {q : Int} {row : List (Bs × Bs)} {k : Int} {nm b : Bs} (hc : (cs q row k).putCode nm b = 0) : (cs q row k).put nm b = cs q (putK nm b row) (k + 1) := by
  unfold OS.put; rw [if_pos hc]; rfl
theorem cs_put_no {q : Int} {row : List (Bs × Bs)} {k : Int} {nm b : Bs} (hc : (cs q row k).putCode nm b ≠ 0) : (cs q row k).put nm b = cs q row (k + 1) := by
  unfold OS.put; rw [if_neg hc]; rfl
theorem cs_getCode {q : Int} {row : List (Bs × Bs)} {k : Int} {nm l : Bs} (h : lk row nm = some l) : (cs q row k).getCode nm = 0 ∧ (cs q row k).getBytes nm = l := by
  unfold OS.getCode OS.getBytes
  have h' : lk (cs q row k).row nm = some l := h
  have h0 : ¬ (cs q row k).code ≠ 0 := by rw [cs_code]; decide
  rw [if_neg h0, if_neg h0, h']
  exact ⟨rfl, rfl⟩

section
variable {q : Int} {b c : Bs} (hb : b.length ≤ 200) (hc : c.length ≤ 200) (hq : q = b.length + c.length)
include hb hq in
theorem co1 : (cs q [] 0).putCode [120] b = 0 := by
  rw [cs_putCode (by decide)]
  unfold OS.roomCode
  rw [if_neg (by omega), if_neg (by simp [cs, lk, sizeR]; omega), if_neg (by simp [cs])]
include hc hq in
theorem co2 : (cs q [([120], b)] 3).putCode [121] c = 0 := by
  rw [cs_putCode (by decide)]
  unfold OS.roomCode
  rw [if_neg (by omega), if_neg (by simp [cs, lk, sizeR]; omega), if_neg (by simp [cs])]
include hq in
theorem co3 : (cs q [([120], b), ([121], c)] 4).putCode [122] [1] = 31 := by
  rw [cs_putCode (by decide)]
  unfold OS.roomCode
  rw [if_neg (by decide), if_pos (by simp [cs, lk, sizeR]; omega)]
include hc hq in
theorem co4 : (cs q [([120], b), ([121], c)] 5).putCode [120] c = if c.length ≤ b.length then 0 else 31 := by
  rw [cs_putCode (by decide)]
  unfold OS.roomCode
  rw [if_neg (by omega)]
  by_cases h : c.length ≤ b.length
  · rw [if_neg (by simp [cs, lk, sizeR]; omega), if_neg (by simp [cs, lk]), if_pos h]
  · rw [if_pos (by simp [cs, lk, sizeR]; omega), if_neg h]
end
theorem pk1 (b : Bs) : putK [120] b [] = [([120], b)] := rfl
theorem pk2 (b c : Bs) : putK [121] c [([120], b)] = [([120], b), ([121], c)] := rfl

theorem bytes_made (W : World) (l : Bs) (cs : Array Value) (n : Nat) (hn : l.length = n) (hm : n ≤ maxLen) (h : bytesV l = cs.toList) : BytesAt (W.alloc (.cells cs 5)) (.slice (some ⟨W.heap.size, 0, none⟩) n n) l := by
  subst hn
  refine ⟨bytesV_length l, _, _, rfl, Nat.le_refl _, hm, (fun e => by cases e), fun _ => ⟨_, 0, rfl, fun j _ => ?_⟩⟩
  rw [cell_blk (alloc_new _ _), h, Nat.zero_add, Array.getElem?_toList]
theorem lk1 (b : Bs) : lk [(([120] : Bs), b)] [120] = some b := rfl

end Go.Proofs.Ytlajejbglpggeaa
