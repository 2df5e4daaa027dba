/-
  coldstorelaw07.ColdAgain: what the store is, without the program.
-/
import Derived.Test.YtgnigkghkldcfaaLaw7b
namespace Go.Proofs.Ytgnigkghkldcfaa
open Go.RowKit Go.Proofs Go.Lib

/-- a cold store without a fuse, or faults -/
def kc (q : Int) (row : List (Bs × Bs)) (k : Int) (notes : List (Bs × (Int × Int))) (jobs life least lost : Int) : CS := { o := cs q row k, notes := notes, jobs := jobs, life := life, least := least, lost := lost }
theorem kc_new (q jobs life least : Int) : CS.new q jobs life least = kc q [] 0 [] jobs life least 0 := rfl

theorem heldT_of {t : Int} (h : 0 ≤ t ∧ t ≤ 1125899906842624) : heldT t = t := by unfold heldT; omega
theorem afterT_of {t n : Int} (hn : 0 ≤ n) (h : t + n ≤ 1125899906842624) : afterT t n = t + n := by unfold afterT; omega

section
variable {b c : Bs} {L A : Int} (hb : b.length ≤ 100) (hc : c.length ≤ 100) (hL : 0 ≤ L ∧ L ≤ 255) (hA : 0 ≤ A ∧ A ≤ 255)
include hb in
theorem ag1 : (kc 1000 [] 0 [] 2 50 L 0).o.putCode [120] b = 0 := by
  show (cs 1000 [] 0).putCode [120] b = 0
  rw [cs_putCode (by decide)]
  unfold OS.roomCode
  rw [if_neg (by omega), if_neg (by simp [cs, lk, sizeR]; omega), if_neg (by simp [cs])]
include hb in
theorem ag2 : (kc 1000 [] 0 [] 2 50 L 0).put [120] b 0 = kc 1000 [([120], b)] 1 [([120], (0, -1))] 2 50 L 0 := by
  unfold CS.put
  rw [if_pos (ag1 hb)]
  have h := cs_put (q := 1000) (row := []) (k := 0) (nm := [120]) (b := b) (ag1 (L := 0) hb)
  unfold CS.set CS.gone
  rw [show (kc 1000 [] 0 [] 2 50 L 0).o.put [120] b = cs 1000 [([120], b)] 1 from h]
  rfl
theorem ag3 : (kc 1000 [([120], b)] 1 [([120], (0, -1))] 2 50 L 0).o.getCode [120] = 0 := (cs_getCode (by rfl)).1
theorem ag4 : (kc 1000 [([120], b)] 1 [([120], (0, -1))] 2 50 L 0).reqCode [120] 0 0 = 0 := by
  unfold CS.reqCode
  rw [if_pos ag3]
  rfl
theorem ag5 : (kc 1000 [([120], b)] 1 [([120], (0, -1))] 2 50 L 0).req [120] 0 0 = kc 1000 [([120], b)] 2 [([120], (0, 0))] 2 50 L 0 := by
  unfold CS.req
  rw [if_pos]
  · rfl
  · unfold CS.asked
    rw [ag3]
    rfl
theorem ag6 : (kc 1000 [([120], b)] 2 [([120], (0, 0))] 2 50 L 0).state [120] 0 = 2 := by rfl
include hc in
theorem ag7 : (kc 1000 [([120], b)] 2 [([120], (0, 0))] 2 50 L 0).o.putCode [120] c = 0 := by
  show (cs 1000 [([120], b)] 2).putCode [120] c = 0
  rw [cs_putCode (by decide)]
  unfold OS.roomCode
  rw [if_neg (by omega), if_neg (by simp [cs, lk, sizeR]; omega), if_neg (by simp [cs, lk])]
include hc hL hA in
theorem ag8 : (kc 1000 [([120], b)] 2 [([120], (0, 0))] 2 50 L 0).put [120] c A = kc 1000 [([120], c)] 3 [([120], (A, -1))] 2 50 L (max (L - A) 0) := by
  unfold CS.put
  rw [if_pos (ag7 hc)]
  have h := cs_put (q := 1000) (row := [([120], b)]) (k := 2) (nm := [120]) (b := c) (ag7 (L := 0) hc)
  have hy : youngT L 0 A = max (L - A) 0 := by unfold youngT; rw [afterT_of hL.1 (by omega)]; omega
  unfold CS.set CS.gone
  rw [show (kc 1000 [([120], b)] 2 [([120], (0, 0))] 2 50 L 0).o.put [120] c = cs 1000 [([120], c)] 3 from h]
  rw [heldT_of (by omega)]
  show kc 1000 [([120], c)] 3 [([120], (A, -1))] 2 50 L (0 + youngT L 0 A) = _
  rw [hy, Int.zero_add]
variable {X : Int}
theorem ag9 : (kc 1000 [([120], c)] 3 [([120], (A, -1))] 2 50 L X).state [120] A = 0 := by
  show stateT 50 (-1) (heldT A) = 0
  unfold stateT
  rw [if_pos (.inl rfl)]
include hL hA in
theorem ag10 : (kc 1000 [([120], c)] 3 [([120], (A, -1))] 2 50 L X).left [120] A = L := by
  show youngT L A (heldT A) = L
  rw [heldT_of (by omega)]
  unfold youngT
  rw [afterT_of hL.1 (by omega)]; omega
/-- armed with one fault -/
def agF (c : Bs) (A L X : Int) : CS := { kc 1000 [([120], c)] 3 [([120], (A, -1))] 2 50 L X with o := (cs 1000 [([120], c)] 3).arm (-1) [true] }
theorem ag11 : (agF c A L X).o.getCode [120] = 30 := by rfl
theorem ag12 : (agF c A L X).reqCode [120] A 3 = 30 := by
  unfold CS.reqCode
  rw [ag11]; rfl
theorem ag13 : (agF c A L X).req [120] A 3 = kc 1000 [([120], c)] 4 [([120], (A, -1))] 2 50 L X := by
  unfold CS.req
  rw [if_neg]
  · rfl
  · unfold CS.asked
    rw [ag11]
    simp
theorem ag14 : (kc 1000 [([120], c)] 4 [([120], (A, -1))] 2 50 L X).pend A = 0 := by
  have h : pendB 50 A (A, -1) = false := by
    unfold pendB
    show decide (stateT 50 (-1) (heldT A) = 1) = false
    unfold stateT
    rw [if_pos (.inl rfl)]; rfl
  unfold CS.pend pendN
  show ([(([120] : Bs), (A, (-1 : Int)))].filter (fun e => pendB 50 A e.2)).length = 0
  simp [h]
theorem ag15 : (kc 1000 [([120], c)] 4 [([120], (A, -1))] 2 50 L X).o.getCode [120] = 0 := (cs_getCode (by rfl)).1
theorem ag15' : stateT 50 (-1) (heldT A) = 0 := by unfold stateT; rw [if_pos (.inl rfl)]
theorem ag16 : (kc 1000 [([120], c)] 4 [([120], (A, -1))] 2 50 L X).reqCode [120] A 3 = 0 := by
  unfold CS.reqCode
  rw [if_pos ag15, ag14]
  rw [if_pos (show stateT (kc 1000 [([120], c)] 4 [([120], (A, -1))] 2 50 L X).life ((kc 1000 [([120], c)] 4 [([120], (A, -1))] 2 50 L X).noteOf [120]).2 (heldT A) = 0 from ag15'), if_neg (by decide), if_neg (by show ¬ (2 : Int) ≤ ((0 : Nat) : Int); decide)]
include hA in
theorem ag17 : (kc 1000 [([120], c)] 4 [([120], (A, -1))] 2 50 L X).req [120] A 3 = kc 1000 [([120], c)] 5 [([120], (A, A + 3))] 2 50 L X := by
  unfold CS.req
  rw [if_pos]
  · rw [heldT_of (by omega), afterT_of (by decide) (by omega)]; rfl
  · unfold CS.asked
    rw [ag15, ag14]
    rw [show stateT (kc 1000 [([120], c)] 4 [([120], (A, -1))] 2 50 L X).life ((kc 1000 [([120], c)] 4 [([120], (A, -1))] 2 50 L X).noteOf [120]).2 (heldT A) = 0 from ag15']
    rfl
include hA in
theorem ag18 : (kc 1000 [([120], c)] 5 [([120], (A, A + 3))] 2 50 L X).state [120] (A + 3) = 2 := by
  show stateT 50 (A + 3) (heldT (A + 3)) = 2
  rw [heldT_of (by omega)]
  unfold stateT
  rw [afterT_of (by decide) (by omega), if_neg (by omega), if_neg (by omega)]
include hA in
theorem ag19 : (kc 1000 [([120], c)] 5 [([120], (A, A + 3))] 2 50 L X).getCode [120] (A + 3) = 0 := by
  unfold CS.getCode
  rw [if_pos (show (kc 1000 [([120], c)] 5 [([120], (A, A + 3))] 2 50 L X).o.getCode [120] = 0 from (cs_getCode (by rfl)).1), if_pos (ag18 hA)]
include hA in
theorem ag20 : (kc 1000 [([120], c)] 5 [([120], (A, A + 3))] 2 50 L X).getBytes [120] (A + 3) = c := by
  unfold CS.getBytes
  rw [if_pos (ag19 hA)]
  exact (cs_getCode (by rfl)).2
include hA in
theorem ag21 : (kc 1000 [([120], c)] 6 [([120], (A, A + 3))] 2 50 L X).pend A = 1 := by
  have h : pendB 50 A (A, A + 3) = true := by
    unfold pendB
    show decide (stateT 50 (A + 3) (heldT A) = 1) = true
    rw [heldT_of (by omega)]
    unfold stateT
    rw [if_neg (by omega), if_pos (by omega)]; rfl
  unfold CS.pend pendN
  show ([(([120] : Bs), (A, A + 3))].filter (fun e => pendB 50 A e.2)).length = 1
  simp [h]
end
end Go.Proofs.Ytgnigkghkldcfaa
