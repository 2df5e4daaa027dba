/-
  coldstorelaw07.ColdYoungs: what the store is, without the program.
-/
import Derived.Test.YtgnigkghkldcfaaAgain2
namespace Go.Proofs.Ytgnigkghkldcfaa
open Go.RowKit Go.Proofs Go.Lib

def yName (i : Nat) : Bs := [120, UInt8.ofNat (97 + i)]
theorem yName_inj {i j : Nat} (hi : i < 20) (hj : j < 20) (h : yName i = yName j) : i = j := by
  unfold yName at h
  simp at h
  have := congrArg UInt8.toNat h
  simp at this
  omega
theorem yName_enc' : ∀ i : Fin 20, Utf8.encode (97 + (i.val : Int)) = ⟨#[UInt8.ofNat (97 + i.val)]⟩ := by decide +kernel
theorem yName_enc {i : Nat} (hi : i < 20) : Utf8.encode (97 + (i : Int)) = ⟨#[UInt8.ofNat (97 + i)]⟩ := yName_enc' ⟨i, hi⟩
theorem yName_ok' : ∀ i : Fin 20, nameOK (yName i.val) = true := by decide +kernel
theorem yName_ok {i : Nat} (hi : i < 20) : nameOK (yName i) = true := yName_ok' ⟨i, hi⟩

theorem delK_insK {α : Type} (x : Bs × α) : ∀ m : List (Bs × α), delK x.1 (insK x m) = delK x.1 m
  | [] => by simp [insK, delK]
  | y :: r => by
    unfold insK
    split
    · unfold delK; rw [List.filter_cons_of_neg (by simp)]
    · have := delK_insK x r
      unfold delK at this ⊢
      by_cases h : (!(y.1 == x.1)) = true
      · rw [List.filter_cons_of_pos (by simpa using h), List.filter_cons_of_pos (by simpa using h), this]
      · rw [List.filter_cons_of_neg (by simpa using h), List.filter_cons_of_neg (by simpa using h), this]
theorem delK_delK {α : Type} (k : Bs) (m : List (Bs × α)) : delK k (delK k m) = delK k m := by unfold delK; rw [List.filter_filter]; simp
theorem delK_putK {α : Type} (k : Bs) (v : α) (m : List (Bs × α)) : delK k (putK k v m) = delK k m := by
  unfold putK
  rw [delK_insK (k, v) (delK k m), delK_delK]

/-- what holds ahead of round i -/
structure YI (i : Nat) (row : List (Bs × Bs)) (notes : List (Bs × (Int × Int))) : Prop where
  rowk : ∀ e ∈ row, ∃ j, j < i ∧ e.1 = yName j
  notesk : ∀ e ∈ notes, ∃ j, j < i ∧ e.1 = yName j
  rr : Rising row
  rn : Rising notes
  len : row.length ≤ i
  lenn : notes.length ≤ i
  size : sizeR row = row.length

section
variable {i : Nat} {row : List (Bs × Bs)} {notes : List (Bs × (Int × Int))} (h : YI i row notes) (hi : i < 20)
include h hi
theorem YI.lkr : lk row (yName i) = none := lk_none_iff.2 (fun y hy e => by
  obtain ⟨j, hj, e2⟩ := h.rowk y hy
  have := yName_inj (by omega) hi (e2.symm.trans e)
  omega)
theorem YI.lkn : lk notes (yName i) = none := lk_none_iff.2 (fun y hy e => by
  obtain ⟨j, hj, e2⟩ := h.notesk y hy
  have := yName_inj (by omega) hi (e2.symm.trans e)
  omega)
omit hi in
theorem YI.up : YI (i + 1) row notes := ⟨fun e he => let ⟨j, hj, e2⟩ := h.rowk e he; ⟨j, by omega, e2⟩, fun e he => let ⟨j, hj, e2⟩ := h.notesk e he; ⟨j, by omega, e2⟩, h.rr, h.rn, Nat.le_succ_of_le h.len, Nat.le_succ_of_le h.lenn, h.size⟩
theorem YI.put (b : UInt8) (n : Int × Int) : YI (i + 1) (putK (yName i) [b] row) (putK (yName i) n notes) := by
  have h1 := length_putK h.rr (yName i) [b]
  rw [h.lkr hi] at h1
  have h2 := length_putK h.rn (yName i) n
  rw [h.lkn hi] at h2
  have h3 := sizeR_putK h.rr (yName i) [b]
  rw [h.lkr hi] at h3
  have := h.len; have := h.lenn; have := h.size
  simp at h1 h2 h3
  refine ⟨fun e he => ?_, fun e he => ?_, rising_putK h.rr, rising_putK h.rn, by omega, by omega, by omega⟩
  · rcases mem_putK he with e1 | e1
    · exact ⟨i, Nat.lt_succ_self _, by rw [e1]⟩
    · exact h.up.rowk e e1
  · rcases mem_putK he with e1 | e1
    · exact ⟨i, Nat.lt_succ_self _, by rw [e1]⟩
    · exact h.up.notesk e e1
theorem YI.code (k : Int) (b : UInt8) : (cs 1000 row k).putCode (yName i) [b] = 0 := by
  rw [cs_putCode (yName_ok hi)]
  unfold OS.roomCode
  have h1 := h.len; have h2 := h.size
  rw [if_neg (by simp), if_neg (by show ¬ ((([b] : Bs).length : Nat) : Int) > (1000 : Int) - ((sizeR row : Nat) : Int) + ((((lk row (yName i)).getD []).length : Nat) : Int); rw [h.lkr hi]; simp; omega), if_neg (by show ¬ (_ ∧ row.length = 4096); omega)]
variable {k L X T : Int} {b : UInt8}
theorem YI.cput (hT : 0 ≤ T ∧ T ≤ 1125899906842624) : (kc 1000 row k notes 2 5 L X).put (yName i) [b] T = kc 1000 (putK (yName i) [b] row) (k + 1) (putK (yName i) (T, -1) notes) 2 5 L X := by
  unfold CS.put
  rw [if_pos (show (kc 1000 row k notes 2 5 L X).o.putCode (yName i) [b] = 0 from h.code hi k b)]
  have h1 := cs_put (h.code hi k b)
  unfold CS.set CS.gone
  rw [show (kc 1000 row k notes 2 5 L X).o.put (yName i) [b] = cs 1000 (putK (yName i) [b] row) (k + 1) from h1, heldT_of hT]
  dsimp only
  rw [show lk (kc 1000 row k notes 2 5 L X).notes (yName i) = none from h.lkn hi]
  rfl
omit h hi in
theorem y_left (hT : 0 ≤ T ∧ T ≤ 300) (hL : 0 ≤ L ∧ L ≤ 255) : (kc 1000 (putK (yName i) [b] row) (k + 1) (putK (yName i) (T, -1) notes) 2 5 L X).left (yName i) 300 = max (T + L - 300) 0 := by
  unfold CS.left
  rw [show lk (kc 1000 (putK (yName i) [b] row) (k + 1) (putK (yName i) (T, -1) notes) 2 5 L X).notes (yName i) = some (T, -1) from lk_putK_same _ _ _]
  show youngT L T (heldT 300) = _
  rw [heldT_of (by decide)]
  unfold youngT
  rw [afterT_of hL.1 (by omega)]
omit h hi in
theorem y_young (hT : 0 ≤ T ∧ T ≤ 300) (hL : 0 ≤ L ∧ L ≤ 255) : (kc 1000 (putK (yName i) [b] row) (k + 1) (putK (yName i) (T, -1) notes) 2 5 L X).young (yName i) (heldT 300) = decide (0 < max (T + L - 300) 0) := by
  unfold CS.young
  rw [show lk (kc 1000 (putK (yName i) [b] row) (k + 1) (putK (yName i) (T, -1) notes) 2 5 L X).notes (yName i) = some (T, -1) from lk_putK_same _ _ _]
  show decide (0 < youngT L T (heldT 300)) = _
  rw [heldT_of (by decide)]
  unfold youngT
  rw [afterT_of hL.1 (by omega)]
omit h hi in
theorem y_code : (kc 1000 (putK (yName i) [b] row) (k + 1) (putK (yName i) (T, -1) notes) 2 5 L X).o.getCode (yName i) = 0 := (cs_getCode (lk_putK_same _ _ _)).1
omit h hi in
theorem y_drop_no {force : Bool} (hT : 0 ≤ T ∧ T ≤ 300) (hL : 0 ≤ L ∧ L ≤ 255) (hf : (!force && decide (0 < max (T + L - 300) 0)) = true) :
    (kc 1000 (putK (yName i) [b] row) (k + 1) (putK (yName i) (T, -1) notes) 2 5 L X).dropCode (yName i) 300 force = 40 ∧
    (kc 1000 (putK (yName i) [b] row) (k + 1) (putK (yName i) (T, -1) notes) 2 5 L X).drop (yName i) 300 force = kc 1000 (putK (yName i) [b] row) (k + 2) (putK (yName i) (T, -1) notes) 2 5 L X := by
  unfold CS.dropCode CS.drop
  rw [y_code, y_young hT hL, if_pos ⟨rfl, hf⟩, if_pos hf]
  refine ⟨rfl, ?_⟩
  rw [show k + 2 = k + 1 + 1 by omega]
  rfl
theorem y_drop_yes {force : Bool} (hT : 0 ≤ T ∧ T ≤ 300) (hL : 0 ≤ L ∧ L ≤ 255) (hf : (!force && decide (0 < max (T + L - 300) 0)) = false) :
    (kc 1000 (putK (yName i) [b] row) (k + 1) (putK (yName i) (T, -1) notes) 2 5 L X).dropCode (yName i) 300 force = 0 ∧
    (kc 1000 (putK (yName i) [b] row) (k + 1) (putK (yName i) (T, -1) notes) 2 5 L X).drop (yName i) 300 force = kc 1000 row (k + 2) notes 2 5 L (X + max (T + L - 300) 0) := by
  have hnf : ¬ (!force && decide (0 < max (T + L - 300) 0)) = true := by rw [hf]; decide
  unfold CS.dropCode CS.drop
  rw [y_code, y_young hT hL, if_neg (fun e => hnf e.2), if_neg hnf, if_pos rfl]
  refine ⟨rfl, ?_⟩
  have h1 : (kc 1000 (putK (yName i) [b] row) (k + 1) (putK (yName i) (T, -1) notes) 2 5 L X).o.drop (yName i) = cs 1000 row (k + 2) := by
    unfold OS.drop
    rw [if_pos y_code]
    show ({ (cs 1000 (putK (yName i) [b] row) (k + 1)).op with row := delK (yName i) (putK (yName i) [b] row) } : OS) = _
    rw [delK_putK, delK_none (h.lkr hi), cs_op, show k + 1 + 1 = k + 2 by omega]
    rfl
  unfold CS.gone
  rw [h1]
  dsimp only
  rw [show lk (kc 1000 (putK (yName i) [b] row) (k + 1) (putK (yName i) (T, -1) notes) 2 5 L X).notes (yName i) = some (T, -1) from lk_putK_same _ _ _]
  dsimp only
  rw [show (kc 1000 (putK (yName i) [b] row) (k + 1) (putK (yName i) (T, -1) notes) 2 5 L X).notes = putK (yName i) (T, -1) notes from rfl, delK_putK, delK_none (h.lkn hi)]
  have hy : youngT L T (heldT 300) = max (T + L - 300) 0 := by rw [heldT_of (by decide)]; unfold youngT; rw [afterT_of hL.1 (by omega)]
  show kc 1000 row (k + 2) notes 2 5 L (X + youngT L T (heldT 300)) = _
  rw [hy]
end
end Go.Proofs.Ytgnigkghkldcfaa
