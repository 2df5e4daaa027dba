/-
  Plain laws for coldstorelaw19.RetainMore; what its two calls of Keep leave, in whichever order they come.
-/
import Derived.Test.YtgnigkghkldcfaaRetLaw
namespace Go.Proofs.Ytgnigkghkldcfaa
open Go.RowKit Go.Proofs Go.Lib Go.Maps Go.Sort Go.Shelf

def leftTo (L : List SnapR) (A : List Bool) (k : Nat) : List SnapR := leftL (L.take k) (A.take k)
theorem leftTo_step {L : List SnapR} {A : List Bool} {k : Nat} {s : SnapR} {a : Bool} (hs : L[k]? = some s) (ha : A[k]? = some a) : leftTo L A (k + 1) = leftTo L A k ++ (if a then [s] else []) := by
  unfold leftTo leftL
  have h1 := (List.getElem?_eq_some_iff.1 hs).1
  have h2 := (List.getElem?_eq_some_iff.1 ha).1
  rw [take_snoc hs, take_snoc ha, List.zip_append (by simp; omega), List.filter_append, List.map_append]
  cases a <;> rfl
theorem leftTo_all {L : List SnapR} {A : List Bool} {k : Nat} (h1 : L.length ≤ k) (h2 : A.length ≤ k) : leftTo L A k = leftL L A := by
  unfold leftTo; rw [List.take_of_length_le h1, List.take_of_length_le h2]
theorem leftTo_le (L : List SnapR) (A : List Bool) (k : Nat) : (leftTo L A k).length ≤ k := by
  unfold leftTo leftL
  rw [List.length_map]
  refine Nat.le_trans (List.length_filter_le _ _) ?_
  rw [List.length_zip, List.length_take, List.length_take]
  omega
theorem leftL_mem {L : List SnapR} {A : List Bool} {s : SnapR} (h : s ∈ leftL L A) : s ∈ L := by
  unfold leftL at h
  obtain ⟨x, hx, rfl⟩ := List.mem_map.1 h
  exact (List.of_mem_zip (List.mem_filter.1 hx).1).1
theorem back_at {L : List SnapR} {k : Nat} {s : SnapR} (h : L[L.length - 1 - k]? = some s) (hk : k < L.length) : L.reverse[k]? = some s := by
  rw [List.getElem?_reverse hk]; exact h
theorem goneL_nil {B : List Bool} (h : ∀ i, i < B.length → B[i]? = some true) : goneL B = [] := by
  unfold goneL
  rw [List.filter_eq_nil_iff]
  intro i hi
  have := h i (by simpa using hi)
  rw [List.getElem!_eq_getElem?_getD, this]
  decide

/-- two calls of Keep, in whichever order -/
structure RMJ (w0 : World) (n : Nat) (v pv mv : Value) (A B : List Bool) (b0 b1 b2 b3 b4 b5 b6 b7 : Bool) (q0 q1 q2 q3 q4 q5 r0 r1 : Value) (W : World) : Prop where
  keep : Keep (fun _ => False) w0 W
  m0 : b0 = true → q0 = v
  m1 : b1 = true → q1 = pv
  m2 : b2 = true → ∃ g c, q2 = .slice (some ⟨g, 0, none⟩) n c ∧ BoolsAt W g A
  m3 : b3 = true → q3 = v
  m4 : b4 = true → q4 = mv
  m5 : b5 = true → ∃ g c, q5 = .slice (some ⟨g, 0, none⟩) n c ∧ BoolsAt W g B
  m6 : b6 = true → b2 = true ∧ r0 = q2
  m7 : b7 = true → b5 = true ∧ r1 = q5
  o2 : b2 = true → b0 = true ∧ b1 = true
  o5 : b5 = true → b3 = true ∧ b4 = true
theorem RMJ.kept {w0 : World} {n : Nat} {v pv mv : Value} {A B : List Bool} {b0 b1 b2 b3 b4 b5 b6 b7 : Bool} {q0 q1 q2 q3 q4 q5 r0 r1 : Value} {W W' : World} (j : RMJ w0 n v pv mv A B b0 b1 b2 b3 b4 b5 b6 b7 q0 q1 q2 q3 q4 q5 r0 r1 W) (k : Keep (fun _ => False) W W') :
    RMJ w0 n v pv mv A B b0 b1 b2 b3 b4 b5 b6 b7 q0 q1 q2 q3 q4 q5 r0 r1 W' :=
  { j with keep := j.keep.trans k, m2 := fun h => let ⟨g, c, e, hb⟩ := j.m2 h; ⟨g, c, e, hb.keep k id⟩, m5 := fun h => let ⟨g, c, e, hb⟩ := j.m5 h; ⟨g, c, e, hb.keep k id⟩ }
theorem rmj0 {n : Nat} {v pv mv : Value} {A B : List Bool} {q0 q1 q2 q3 q4 q5 r0 r1 : Value} (W : World) : RMJ W n v pv mv A B false false false false false false false false q0 q1 q2 q3 q4 q5 r0 r1 W.drew :=
  ⟨(Keep.refl _ W).drew, (fun e => by cases e), (fun e => by cases e), (fun e => by cases e), (fun e => by cases e), (fun e => by cases e), (fun e => by cases e), (fun e => by cases e), (fun e => by cases e), (fun e => by cases e), (fun e => by cases e)⟩

/-- the copy of the policy, changed in two places -/
structure RMQ (tb mb : Nat) (W0 : World) (l1 d1 l2 d2 day wi : Int) (tag : Bs) (b c : Bool) (W : World) : Prop where
  keep : Keep (fun x => x = mb) W0 W
  old : W.heap[tb]? = some (.cells (polCells ⟨l1, d1, day, wi, tag⟩) 95 (0, 0))
  new : W.heap[mb]? = some (.cells (polCells ⟨if b then l2 else l1, if c then d2 else d1, day, wi, tag⟩) 95 (0, 0))
  ne : tb ≠ mb
section
variable {tb mb : Nat} {W0 : World} {l1 d1 l2 d2 day wi : Int} {tag : Bs} {b c : Bool} {W : World} (h : RMQ tb mb W0 l1 d1 l2 d2 day wi tag b c W)
include h
theorem RMQ.c0 : W.cell? ⟨tb, 0, none⟩ = some (.int .i64 l1) := by rw [cell_blk h.old]; rfl
theorem RMQ.c1 : W.cell? ⟨tb, 1, none⟩ = some (.int .i64 d1) := by rw [cell_blk h.old]; rfl
theorem RMQ.m0 : W.cell? ⟨mb, 0, none⟩ = some (.int .i64 (if b then l2 else l1)) := by rw [cell_blk h.new]; rfl
theorem RMQ.m1 : W.cell? ⟨mb, 1, none⟩ = some (.int .i64 (if c then d2 else d1)) := by rw [cell_blk h.new]; rfl
theorem RMQ.f0 : W.frozen? ⟨mb, 0, none⟩ = false := frozen_blk h.new 0
theorem RMQ.f1 : W.frozen? ⟨mb, 1, none⟩ = false := frozen_blk h.new 1
theorem RMQ.s0 : RMQ tb mb W0 l1 d1 l2 d2 day wi tag true c (W.setCell ⟨mb, 0, none⟩ (.int .i64 l2)) :=
  ⟨h.keep.setCell (p := ⟨mb, 0, none⟩) (fun _ => rfl) _, set_other h.old (fun e => h.ne (by simpa using e)) _, by rw [set_blk h.new]; rfl, h.ne⟩
theorem RMQ.s1 : RMQ tb mb W0 l1 d1 l2 d2 day wi tag b true (W.setCell ⟨mb, 1, none⟩ (.int .i64 d2)) :=
  ⟨h.keep.setCell (p := ⟨mb, 1, none⟩) (fun _ => rfl) _, set_other h.old (fun e => h.ne (by simpa using e)) _, by rw [set_blk h.new]; rfl, h.ne⟩
end
theorem rmq0 {tb mb : Nat} {W : World} {l1 d1 l2 d2 day wi : Int} {tag : Bs} (h1 : W.heap[tb]? = some (.cells (polCells ⟨l1, d1, day, wi, tag⟩) 95 (0, 0))) (h2 : W.heap[mb]? = some (.cells (polCells ⟨l1, d1, day, wi, tag⟩) 95 (0, 0))) (hn : tb ≠ mb) :
    RMQ tb mb W l1 d1 l2 d2 day wi tag false false W.drew := ⟨(Keep.refl _ W).drew, h1, h2, hn⟩
theorem rm_w2 {w1 W2 : World} {tb : Nat} {pl pd l1 d1 day wi : Int} {tag : Bs} {O : Obj} (b5 : w1.heap[tb]? = some (.cells #[.int .i64 pl, .int .i64 pd, .int .i64 day, .int .i64 wi, strV tag] 95 (0, 0))) (hlt : tb < w1.heap.size)
    (k : Keep (fun x => x = w1.heap.size) (((w1.setCell ⟨tb, 0, none⟩ (.int .i64 l1)).setCell ⟨tb, 1, none⟩ (.int .i64 d1)).alloc O) W2) : W2.heap[tb]? = some (.cells (polCells ⟨l1, d1, day, wi, tag⟩) 95 (0, 0)) ∧ Keep (fun x => x = tb) w1 W2 := by
  have h1 := set_blk (set_blk b5 0 (.int .i64 l1)) 1 (.int .i64 d1)
  have h2 := alloc_blk h1 O
  have h3 := k.heap h2 (fun e => by omega)
  have k0 : Keep (fun x => x = tb) w1 ((w1.setCell ⟨tb, 0, none⟩ (.int .i64 l1)).setCell ⟨tb, 1, none⟩ (.int .i64 d1)) := ((Keep.refl (fun x => x = tb) w1).setCell (p := ⟨tb, 0, none⟩) (fun _ => rfl) _).setCell (p := ⟨tb, 1, none⟩) (fun _ => rfl) _
  exact ⟨h3, (k0.alloc O).trans' k (fun _ _ e => e) (fun i hi e => by omega)⟩
/-- the two rows that grow -/
structure RMI (W5 : World) (L : List SnapR) (A : List Bool) (j k : Nat) (v12 v13 : Value) (wr : World) : Prop where
  keep : Keep (fun _ => False) W5 wr
  lf : wr.ownsRow W5.heap.size 108 37 v12 (leftTo L A j).length ((leftTo L A j).flatMap snapCells)
  bk : wr.ownsRow W5.heap.size 108 37 v13 k ((L.reverse.take k).flatMap snapCells)
  dis : ∀ g, vblk v12 = some g → vblk v13 ≠ some g
theorem RMI.left {W5 : World} {L : List SnapR} {A : List Bool} {k : Nat} {v12 v13 v1 : Value} {wr Y1 : World} {O : Obj} {s : SnapR} (h : RMI W5 L A k k v12 v13 wr) (hs : L[k]? = some s) (ha : A[k]? = some true)
    (hown : Y1.ownsRow W5.heap.size 108 37 v1 ((leftTo L A k).length + 1) ((leftTo L A k).flatMap snapCells ++ snapCells s)) (hk : Keep (fun b => vblk v12 = some b) (wr.alloc O) Y1) (hb : ∀ b, vblk v1 = some b → vblk v12 = some b ∨ (wr.alloc O).heap.size ≤ b) :
    RMI W5 L A (k + 1) k v1 v13 Y1 := by
  have e := leftTo_step hs ha
  simp only [if_true] at e
  have hsz := h.keep.size
  refine ⟨(h.keep.alloc O).trans' hk (fun _ _ e => e) (fun i hi e => by have := (own_lt h.lf i e).1; omega), ?_, own_keep (h.bk.alloc O) hk (fun g e1 e2 => h.dis g e2 e1), fun g e1 e2 => ?_⟩
  · rw [e, List.length_append, List.flatMap_append]
    simpa using hown
  · rcases hb g e1 with e3 | e3
    · exact h.dis g e3 e2
    · have := (own_lt h.bk g e2).2; simp at e3; omega
theorem RMI.skip {W5 : World} {L : List SnapR} {A : List Bool} {k : Nat} {v12 v13 : Value} {wr : World} {s : SnapR} (h : RMI W5 L A k k v12 v13 wr) (hs : L[k]? = some s) (ha : A[k]? = some false) : RMI W5 L A (k + 1) k v12 v13 wr := by
  have e := leftTo_step hs ha
  simp only [Bool.false_eq_true, if_false, List.append_nil] at e
  exact { h with lf := by rw [e]; exact h.lf }
theorem RMI.back {W5 : World} {L : List SnapR} {A : List Bool} {j k : Nat} {v12 v13 v2 : Value} {wr Y2 : World} {O : Obj} {s : SnapR} (h : RMI W5 L A j k v12 v13 wr) (hs : L.reverse[k]? = some s)
    (hown : Y2.ownsRow W5.heap.size 108 37 v2 (k + 1) ((L.reverse.take k).flatMap snapCells ++ snapCells s)) (hk : Keep (fun b => vblk v13 = some b) (wr.alloc O) Y2) (hb : ∀ b, vblk v2 = some b → vblk v13 = some b ∨ (wr.alloc O).heap.size ≤ b) :
    RMI W5 L A j (k + 1) v12 v2 Y2 := by
  have hsz := h.keep.size
  refine ⟨(h.keep.alloc O).trans' hk (fun _ _ e => e) (fun i hi e => by have := (own_lt h.bk i e).1; omega), own_keep (h.lf.alloc O) hk (fun g e1 e2 => h.dis g e1 e2), ?_, fun g e1 e2 => ?_⟩
  · rw [take_snoc hs, List.flatMap_append]
    simpa using hown
  · rcases hb g e2 with e3 | e3
    · exact h.dis g e1 e3
    · have := (own_lt h.lf g e1).2; simp at e3; omega
theorem more_zero {L : List SnapR} {P : List Nat} {D : List Int} {p : PolR} (hP : Places L P) (hD : DaysOf L p.day D) {P' : List Nat} {D' : List Int} (hP' : Places (leftL L (keepB L P p D)) P') (hD' : DaysOf (leftL L (keepB L P p D)) p.day D') :
    goneL (keepB (leftL L (keepB L P p D)) P' p D') = [] :=
  goneL_nil fun i hi => left_all hP hD hP' hD' i (by rwa [keepB_len] at hi)
theorem more_rest {L : List SnapR} {P : List Nat} {D : List Int} {p : PolR} (hP : Places L P) (hD : DaysOf L p.day D) {P' : List Nat} {D' : List Int} (hP' : Places L.reverse P') (hD' : DaysOf L.reverse p.day D') (h : L.length ≤ 30) :
    ((goneL (keepB L.reverse P' p D')).take (1000 : Int).toNat).length = L.length - (leftL L (keepB L P p D)).length := by
  have h1 := goneL_len (keepB L.reverse P' p D')
  have h2 := turned_count (p := p) (L := L) (L' := L.reverse) (List.reverse_perm L).symm hP hP' hD hD'
  have h3 := leftL_len L (keepB L P p D) (keepB_len _ _ _ _)
  rw [keepB_len, List.length_reverse] at h1
  rw [List.length_take]
  have : (1000 : Int).toNat = 1000 := rfl
  omega
end Go.Proofs.Ytgnigkghkldcfaa
