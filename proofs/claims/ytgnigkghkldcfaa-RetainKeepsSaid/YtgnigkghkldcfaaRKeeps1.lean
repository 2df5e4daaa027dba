/-
  coldstorelaw19.RetainKeeps, ahead of it: gone of none.
-/
import Derived.Test.YtgnigkghkldcfaaRefK7
namespace Go.Proofs.Ytgnigkghkldcfaa
open Go.RowKit Go.Proofs Go.Lib Go.Maps Go.Sort Go.Shelf

set_option maxRecDepth 100000 in
set_option maxHeartbeats 4000000 in
theorem gone_none {w : World} {v : Value} {L : List SnapR} {p : PolR} {P : List Nat} {D : List Int} {most : Int} (hm : most ≤ 0) :
    Calls Try.prog 59 #[v, .agg (polCells p), .int .i64 most] w (GonePost L P p D most w) := by
  unfold GonePost
  have e0 : (goneL (keepB L P p D)).take most.toNat = [] := by rw [show most.toNat = 0 from by omega]; rfl
  rw [e0]
  clear e0
  obtain ⟨p0, p1, p2, p3, p4⟩ := p
  unfold polCells strV
  dsimp only
  refine (callsIn_wide (n := 9)).1 ?_
  refine callsIn_of_wp_marks Try.func59 rfl trivial ?_ rfl
  simp only [Try.ntmps59, List.size_toArray, List.length_cons, List.length_nil, Nat.reduceAdd, Nat.reduceSub, Array.replicate_succ, Array.replicate_zero, List.push_toArray, List.append_toArray, List.nil_append, List.cons_append]
  gi_wp2_with fail
  refine ⟨.slice (some ⟨w.heap.size + 1 + 1 + 1, 0, none⟩) 0 0, by simp [results, Try.results59, go_sem], _, _, rfl, ?_, (((((Keep.refl _ w).alloc _).alloc _).alloc _).alloc _).alloc _⟩
  exact ⟨rfl, _, 0, rfl, Nat.le_refl _, Nat.zero_le _, fun _ => rfl, fun h => absurd h (by simp)⟩

theorem gone_le {w : World} {v : Value} {L : List SnapR} {p : PolR} {P : List Nat} {D : List Int} {most : Int} (hL : SnapsAt w v L) (hOK : ∀ s ∈ L, SnapOK s) (h30 : L.length ≤ 30) (hlast : In64 p.last) (hdays : In64 p.days) (hwi : In64 p.within) (hP : Places L P) (hD : DaysOf L p.day D)
    (hm2 : most ≤ 4000000000000000000) : Calls Try.prog 59 #[v, .agg (polCells p), .int .i64 most] w (GonePost L P p D most w) := by
  by_cases hm : 0 < most
  · exact gone_at hL hOK h30 hlast hdays hwi hP hD hm hm2
  · exact gone_none (by omega)

/-- the reference's Keep and its list, laid in any order -/
structure RKJ (w0 : World) (n : Nat) (L : List SnapR) (v pv : Value) (A : List Bool) (b0 b1 b2 b3 b4 : Bool) (q0 q1 q2 q3 r : Value) (W : World) : Prop where
  keep : Keep (fun _ => False) w0 W
  m0 : b0 = true → q0 = v
  m1 : b1 = true → SnapsAt W q1 L
  m2 : b2 = true → q2 = pv
  m3 : b3 = true → ∃ g c, q3 = .slice g n c ∧ Sl W 1 (.slice g n c) n (A.map Value.bool)
  m4 : b4 = true → b3 = true ∧ r = q3
theorem RKJ.kept {w0 : World} {n : Nat} {L : List SnapR} {v pv : Value} {A : List Bool} {b0 b1 b2 b3 b4 : Bool} {q0 q1 q2 q3 r : Value} {W W' : World} (j : RKJ w0 n L v pv A b0 b1 b2 b3 b4 q0 q1 q2 q3 r W) (k : Keep (fun _ => False) W W') :
    RKJ w0 n L v pv A b0 b1 b2 b3 b4 q0 q1 q2 q3 r W' :=
  { j with keep := j.keep.trans k, m1 := fun h => (j.m1 h).keep k (fun _ _ e => e), m3 := fun h => let ⟨g, c, e, hb⟩ := j.m3 h; ⟨g, c, e, Sl.keep hb k (fun _ _ _ e => e)⟩ }
theorem rkj0 {n : Nat} {L : List SnapR} {v pv : Value} {A : List Bool} {q0 q1 q2 q3 r : Value} (W : World) : RKJ W n L v pv A false false false false false q0 q1 q2 q3 r W.drew :=
  ⟨(Keep.refl _ W).drew, (fun e => by cases e), (fun e => by cases e), (fun e => by cases e), (fun e => by cases e), (fun e => by cases e)⟩
/-- the days twice -/
structure RKD (w0 : World) (L : List SnapR) (v dp : Value) (day : Int) (D : List Int) (b0 b1 b2 b3 b4 b5 b6 b7 b8 b9 b10 : Bool) (q0 q1 q2 q3 q4 q5 q6 q7 q8 r0 r1 : Value) (W : World) : Prop where
  keep : Keep (fun _ => False) w0 W
  m0 : b0 = true → q0 = v
  m1 : b1 = true → q1 = dp
  m2 : b2 = true → q2 = .int .i64 day
  m3 : b3 = true → Sl W 1 q3 D.length (D.map (.int .i64))
  m4 : b4 = true → q4 = v
  m5 : b5 = true → SnapsAt W q5 L
  m6 : b6 = true → q6 = dp
  m7 : b7 = true → q7 = .int .i64 day
  m8 : b8 = true → Sl W 1 q8 D.length (D.map (.int .i64))
  m9 : b9 = true → b3 = true ∧ r0 = q3
  m10 : b10 = true → b8 = true ∧ r1 = q8
theorem RKD.kept {w0 : World} {L : List SnapR} {v dp : Value} {day : Int} {D : List Int} {b0 b1 b2 b3 b4 b5 b6 b7 b8 b9 b10 : Bool} {q0 q1 q2 q3 q4 q5 q6 q7 q8 r0 r1 : Value} {W W' : World} (j : RKD w0 L v dp day D b0 b1 b2 b3 b4 b5 b6 b7 b8 b9 b10 q0 q1 q2 q3 q4 q5 q6 q7 q8 r0 r1 W) (k : Keep (fun _ => False) W W') :
    RKD w0 L v dp day D b0 b1 b2 b3 b4 b5 b6 b7 b8 b9 b10 q0 q1 q2 q3 q4 q5 q6 q7 q8 r0 r1 W' :=
  { j with keep := j.keep.trans k, m3 := fun h => Sl.keep (j.m3 h) k (fun _ _ _ e => e), m5 := fun h => (j.m5 h).keep k (fun _ _ e => e), m8 := fun h => Sl.keep (j.m8 h) k (fun _ _ _ e => e) }
theorem rkd0 {L : List SnapR} {v dp : Value} {day : Int} {D : List Int} {q0 q1 q2 q3 q4 q5 q6 q7 q8 r0 r1 : Value} (W : World) : RKD W L v dp day D false false false false false false false false false false false q0 q1 q2 q3 q4 q5 q6 q7 q8 r0 r1 W.drew :=
  ⟨(Keep.refl _ W).drew, (fun e => by cases e), (fun e => by cases e), (fun e => by cases e), (fun e => by cases e), (fun e => by cases e), (fun e => by cases e), (fun e => by cases e), (fun e => by cases e), (fun e => by cases e), (fun e => by cases e), (fun e => by cases e)⟩

theorem goneTo_le (B : List Bool) (k : Nat) : (goneTo B k).length ≤ k := by
  have := List.length_filter_le (fun i => !B[i]!) (List.range k)
  rw [List.length_range] at this
  exact this
theorem len_within : ∀ (D M : List Int), D.Pairwise (fun x y => y < x) → (∀ x ∈ D, x ∈ M) → D.length ≤ M.length
  | [], M, _, _ => Nat.zero_le _
  | x :: D, M, hp, h => by
    have hx := h x (List.mem_cons_self ..)
    have hq := List.pairwise_cons.1 hp
    have h1 := len_within D (M.erase x) hq.2 (fun y hy => (List.mem_erase_of_ne (by have := hq.1 y hy; omega)).2 (h y (List.mem_cons_of_mem _ hy)))
    rw [List.length_erase_of_mem hx] at h1
    have h2 := List.length_pos_of_mem hx
    rw [List.length_cons]
    omega
theorem days_len {L : List SnapR} {day : Int} {D : List Int} (h : DaysOf L day D) : D.length ≤ L.length := by
  have := len_within D (L.map fun s => s.time / day) h.falls (fun x hx => by
    have h1 := ((h.mem x).1 hx).2
    first
      | exact h1
      | (obtain ⟨s, hs, e⟩ := h1; exact List.mem_map.2 ⟨s, hs, by first | exact e | exact e.symm⟩))
  rw [List.length_map] at this
  exact this
theorem nats_ints {w : World} {v : Value} {X : List Nat} (h : Sl w 1 v X.length (natsV X)) : IntsAt w v (X.map fun n : Nat => (n : Int)) := by
  unfold IntsAt
  rw [List.length_map, List.map_map]
  exact h
theorem goneTo_all (B : List Bool) : goneTo B B.length = goneL B := rfl
end Go.Proofs.Ytgnigkghkldcfaa
