/-
  The arguments of coldstorelaw07's laws: a slice of steps; what a store is made of.
-/
import Derived.Test.YtgnigkghkldcfaaFrame
import Derived.Test.YtgnigkghkldcfaaOpenOps
import Derived.Test.YtgnigkghkldcfaaOps7
namespace Go.Proofs.Ytgnigkghkldcfaa
open Go.ChangeShapes Go.WideShapes Go.ChangeAt Go.RowKit Go.Deep

theorem cellsOp7 : Try.prog.cellsOf 78 = 6 := by kernel_rfl
theorem cellsIn7 : Try.prog.cellsOf 67 = 6 := by kernel_rfl
theorem cellsI64 : Try.prog.cellsOf 2 = 1 := by kernel_rfl
theorem cellsBool : Try.prog.cellsOf 4 = 1 := by kernel_rfl
theorem cellsBools : Try.prog.cellsOf 22 = 1 := by kernel_rfl

/-- a part of one cell, at its place -/
theorem part1 {cs : List Value} {off : Nat} {P : Program} {t : TypeId} (hc : P.cellsOf t = 1) (ho : off < cs.length) : ∃ v, (cs.drop off).take (P.cellsOf t) = [v] ∧ cs[off]? = some v := by
  rw [hc]
  refine ⟨cs[off], ?_, List.getElem?_eq_getElem ho⟩
  rw [List.drop_eq_getElem_cons ho]; rfl

set_option maxRecDepth 10000 in
theorem ops7_of_trod {H : Type} {enc : TypeId × Value → H} {w : World} {v : Value} {d : DataW H} {ps : List MemPlace}
    (hv : ∃ a n c, v = .slice a n c) (h : DataW.Trod enc Try.prog w 0 (fun _ => true) true 68 v d ps) :
    ∃ L, Ops7At w v L ∧ ∀ p ∈ L, (-9223372036854775808 ≤ p.1.kind ∧ p.1.kind ≤ 9223372036854775807) ∧ (-9223372036854775808 ≤ p.1.now ∧ p.1.now ≤ 9223372036854775807) ∧ (-9223372036854775808 ≤ p.1.wait ∧ p.1.wait ≤ 9223372036854775807) := by
  obtain ⟨fuel, hf⟩ := h
  obtain ⟨a0, n0, c0, rfl⟩ := hv
  rcases open_slice Try.underlying68 hf with ⟨hcs, hx⟩ | ⟨a, len, cap, m, n, D, Pl, hcs, _, hl, hm, hmm, hx, hel⟩
  · simp [Value.cells] at hcs
    obtain ⟨rfl, rfl, rfl⟩ := hcs
    exact ⟨[], ⟨Sl.nil _ _, fun _ hp => by cases hp⟩, fun _ hp => by cases hp⟩
  · simp [Value.cells] at hcs
    obtain ⟨rfl, rfl, rfl⟩ := hcs
    simp only [if_true] at hmm
    subst hmm
    have each : ∀ i, i < n0 → ∃ p : Op7 × Value, (∀ j, j < 6 → w.cell? (a.add (i * 6 + j)) = (step7 p)[j]?) ∧ BytesAt w p.2 p.1.b ∧ (-9223372036854775808 ≤ p.1.kind ∧ p.1.kind ≤ 9223372036854775807) ∧ (-9223372036854775808 ≤ p.1.now ∧ p.1.now ≤ 9223372036854775807) ∧ (-9223372036854775808 ≤ p.1.wait ∧ p.1.wait ≤ 9223372036854775807) := by
      intro i hi
      obtain ⟨cs, hc, ht⟩ := hel i (by omega)
      rw [cellsOp7] at hc
      obtain ⟨hb, hcl, hce⟩ := World.cells?_some hc
      obtain ⟨xs, n', _, hxx, _, hlen, hfd⟩ := DataW.trod_struct Try.underlying78 ht
      have t0 : DataW.trod enc Try.prog w 0 (fun _ => true) true n' 3 ((cs.drop 0).take (Try.prog.cellsOf 3)) = xs[0]? := hfd 0 _ rfl
      have t1 : DataW.trod enc Try.prog w 0 (fun _ => true) true n' 9 ((cs.drop 1).take (Try.prog.cellsOf 9)) = xs[1]? := hfd 1 _ rfl
      have t2 : DataW.trod enc Try.prog w 0 (fun _ => true) true n' 36 ((cs.drop 2).take (Try.prog.cellsOf 36)) = xs[2]? := hfd 2 _ rfl
      have t3 : DataW.trod enc Try.prog w 0 (fun _ => true) true n' 2 ((cs.drop 3).take (Try.prog.cellsOf 2)) = xs[3]? := hfd 3 _ rfl
      have t4 : DataW.trod enc Try.prog w 0 (fun _ => true) true n' 2 ((cs.drop 4).take (Try.prog.cellsOf 2)) = xs[4]? := hfd 4 _ rfl
      have t5 : DataW.trod enc Try.prog w 0 (fun _ => true) true n' 4 ((cs.drop 5).take (Try.prog.cellsOf 4)) = xs[5]? := hfd 5 _ rfl
      have hxl : xs.length = 6 := hlen
      obtain ⟨y0, q0⟩ : ∃ y, xs[0]? = some y := ⟨_, List.getElem?_eq_getElem (by omega)⟩
      obtain ⟨y1, q1⟩ : ∃ y, xs[1]? = some y := ⟨_, List.getElem?_eq_getElem (by omega)⟩
      obtain ⟨y2, q2⟩ : ∃ y, xs[2]? = some y := ⟨_, List.getElem?_eq_getElem (by omega)⟩
      obtain ⟨y3, q3⟩ : ∃ y, xs[3]? = some y := ⟨_, List.getElem?_eq_getElem (by omega)⟩
      obtain ⟨y4, q4⟩ : ∃ y, xs[4]? = some y := ⟨_, List.getElem?_eq_getElem (by omega)⟩
      obtain ⟨y5, q5⟩ : ∃ y, xs[5]? = some y := ⟨_, List.getElem?_eq_getElem (by omega)⟩
      rw [q0] at t0; rw [q1] at t1; rw [q2] at t2; rw [q3] at t3; rw [q4] at t4; rw [q5] at t5
      rw [cellsInt] at t0; rw [cellsStr] at t1; rw [cellsBytes] at t2; rw [cellsI64] at t3 t4; rw [cellsBool] at t5
      obtain ⟨x, e0, _, hw⟩ := DataW.trod_int Try.underlying3 t0
      obtain ⟨nm, e1, _, _⟩ := DataW.trod_string Try.underlying9 t1
      have hsl : ∃ a n c, (cs.drop 2).take 1 = [.slice a n c] := by
        rcases DataW.trod_slice Try.underlying36 t2 with ⟨e, _⟩ | ⟨a, l, c, _, _, _, _, e, _⟩
        · exact ⟨_, _, _, e⟩
        · exact ⟨_, _, _, e⟩
      obtain ⟨ba, bn, bc, e2⟩ := hsl
      rw [e2] at t2
      obtain ⟨l, hB⟩ := bytes_of_trod (v := .slice ba bn bc) Try.underlying36 Try.underlying5 cellsByte ⟨_, _, _, rfl⟩ ⟨_, t2⟩
      obtain ⟨now, e3, _, hw3⟩ := DataW.trod_int Try.underlying2 t3
      obtain ⟨wait, e4, _, hw4⟩ := DataW.trod_int Try.underlying2 t4
      obtain ⟨force, e5, _⟩ := DataW.trod_bool Try.underlying4 t5
      have g0 := take_drop1 e0
      have g1 := take_drop1 e1
      have g2 := take_drop1 e2
      have g3 := take_drop1 e3
      have g4 := take_drop1 e4
      have g5 := take_drop1 e5
      refine ⟨(⟨x, nm.data.toList, l, now, wait, force⟩, .slice ba bn bc), fun j hj => ?_, hB, wf_i64 hw, wf_i64 hw3, wf_i64 hw4⟩
      have hs : strV nm.data.toList = .string nm := by cases nm; simp [strV]
      rw [← add_add, hce j hj]
      match j, hj with
      | 0, _ => rw [g0]; rfl
      | 1, _ => rw [g1]; simp [step7, hs]
      | 2, _ => rw [g2]; rfl
      | 3, _ => rw [g3]; rfl
      | 4, _ => rw [g4]; rfl
      | 5, _ => rw [g5]; rfl
    haveI : Inhabited (Op7 × Value) := ⟨(⟨0, [], [], 0, 0, false⟩, undef)⟩
    obtain ⟨f, hfe⟩ := choose_lt each
    refine ⟨(List.range n0).map f, ⟨?_, ?_⟩, ?_⟩
    · have hlen : ((List.range n0).map f).length = n0 := by simp
      have hfl : ∀ (L : List (Op7 × Value)), (L.flatMap step7).length = L.length * 6 := by
        intro L
        induction L with
        | nil => rfl
        | cons a r ih => simp [step7, ih]; omega
      refine ⟨hfl _, some a, m, by rw [hlen], by rw [hlen]; exact hl, hm, (fun e => by cases e), fun hn => ?_⟩
      rw [hlen] at hn ⊢
      have h0 := (hfe 0 hn).1 0 (by decide)
      have hspot : a.spot = none := by
        have : w.cell? a = some (.int .i64 (f 0).1.kind) := by simpa [Addr.add, step7] using h0
        exact World.cell?_spot this
      obtain ⟨b, o, sp⟩ := a
      simp only at hspot
      subst hspot
      refine ⟨b, o, rfl, fun j hj => ?_⟩
      have hj6 : j = j / 6 * 6 + j % 6 := by omega
      have hi : j / 6 < n0 := by omega
      have hcell := (hfe (j / 6) hi).1 (j % 6) (by omega)
      rw [← hj6] at hcell
      rw [add_plain] at hcell
      rw [hcell]
      have hg : ((List.range n0).map f)[j / 6]? = some (f (j / 6)) := by simp [hi]
      have q := flat7 hg (j % 6) (by omega)
      rw [← hj6] at q
      rw [q]
    · intro p hp
      obtain ⟨i, hi, rfl⟩ := List.mem_map.1 hp
      exact (hfe i (List.mem_range.1 hi)).2.1
    · intro p hp
      obtain ⟨i, hi, rfl⟩ := List.mem_map.1 hp
      exact (hfe i (List.mem_range.1 hi)).2.2

set_option maxRecDepth 10000 in
/-- what a store is made of: the six parts of an In -/
theorem in7_of_trod {H : Type} {enc : TypeId × Value → H} {W w : World} {base : Nat} {v : Value} {d : DataW H} {ps : List MemPlace}
    (hv : Value.okWide Try.prog W .any base 67 v) (h : DataW.Trod enc Try.prog w 0 (fun _ => true) true 67 v d ps) :
    ∃ (q j fu li le : Int) (fv : Value) (fl : List Bool), v = .agg #[.int .i64 q, .int .i64 j, .int .i64 fu, .int .i64 li, .int .i64 le, fv] ∧ (-9223372036854775808 ≤ q ∧ q ≤ 9223372036854775807) ∧ (-9223372036854775808 ≤ j ∧ j ≤ 9223372036854775807) ∧
      (-9223372036854775808 ≤ fu ∧ fu ≤ 9223372036854775807) ∧ (-9223372036854775808 ≤ li ∧ li ≤ 9223372036854775807) ∧ (-9223372036854775808 ≤ le ∧ le ≤ 9223372036854775807) ∧ Sl w 1 fv fl.length (fl.map .bool) := by
  obtain ⟨cs, rfl, hsz⟩ := okWide_struct Try.underlying67 hv
  obtain ⟨l⟩ := cs
  have hl6 : l.length = 6 := hsz.trans cellsIn7
  obtain ⟨fuel, hf⟩ := h
  obtain ⟨xs, n', _, _, _, hlen, hfd⟩ := DataW.trod_struct Try.underlying67 hf
  have t0 : DataW.trod enc Try.prog w 0 (fun _ => true) true n' 3 ((l.drop 0).take (Try.prog.cellsOf 3)) = xs[0]? := hfd 0 _ rfl
  have t1 : DataW.trod enc Try.prog w 0 (fun _ => true) true n' 3 ((l.drop 1).take (Try.prog.cellsOf 3)) = xs[1]? := hfd 1 _ rfl
  have t2 : DataW.trod enc Try.prog w 0 (fun _ => true) true n' 3 ((l.drop 2).take (Try.prog.cellsOf 3)) = xs[2]? := hfd 2 _ rfl
  have t3 : DataW.trod enc Try.prog w 0 (fun _ => true) true n' 2 ((l.drop 3).take (Try.prog.cellsOf 2)) = xs[3]? := hfd 3 _ rfl
  have t4 : DataW.trod enc Try.prog w 0 (fun _ => true) true n' 2 ((l.drop 4).take (Try.prog.cellsOf 2)) = xs[4]? := hfd 4 _ rfl
  have t5 : DataW.trod enc Try.prog w 0 (fun _ => true) true n' 22 ((l.drop 5).take (Try.prog.cellsOf 22)) = xs[5]? := hfd 5 _ rfl
  have hxl : xs.length = 6 := hlen
  obtain ⟨y0, q0⟩ : ∃ y, xs[0]? = some y := ⟨_, List.getElem?_eq_getElem (by omega)⟩
  obtain ⟨y1, q1⟩ : ∃ y, xs[1]? = some y := ⟨_, List.getElem?_eq_getElem (by omega)⟩
  obtain ⟨y2, q2⟩ : ∃ y, xs[2]? = some y := ⟨_, List.getElem?_eq_getElem (by omega)⟩
  obtain ⟨y3, q3⟩ : ∃ y, xs[3]? = some y := ⟨_, List.getElem?_eq_getElem (by omega)⟩
  obtain ⟨y4, q4⟩ : ∃ y, xs[4]? = some y := ⟨_, List.getElem?_eq_getElem (by omega)⟩
  obtain ⟨y5, q5⟩ : ∃ y, xs[5]? = some y := ⟨_, List.getElem?_eq_getElem (by omega)⟩
  rw [q0] at t0; rw [q1] at t1; rw [q2] at t2; rw [q3] at t3; rw [q4] at t4; rw [q5] at t5
  rw [cellsInt] at t0 t1 t2; rw [cellsI64] at t3 t4; rw [cellsBools] at t5
  obtain ⟨x0, e0, _, w0⟩ := DataW.trod_int Try.underlying3 t0
  obtain ⟨x1, e1, _, w1⟩ := DataW.trod_int Try.underlying3 t1
  obtain ⟨x2, e2, _, w2⟩ := DataW.trod_int Try.underlying3 t2
  obtain ⟨x3, e3, _, w3⟩ := DataW.trod_int Try.underlying2 t3
  obtain ⟨x4, e4, _, w4⟩ := DataW.trod_int Try.underlying2 t4
  have hsl : ∃ a n c, (l.drop 5).take 1 = [.slice a n c] := by
    rcases DataW.trod_slice Try.underlying22 t5 with ⟨e, _⟩ | ⟨a, l, c, _, _, _, _, e, _⟩
    · exact ⟨_, _, _, e⟩
    · exact ⟨_, _, _, e⟩
  obtain ⟨fa, fn, fc, e5⟩ := hsl
  have g0 := take_drop1 e0
  have g1 := take_drop1 e1
  have g2 := take_drop1 e2
  have g3 := take_drop1 e3
  have g4 := take_drop1 e4
  have g5 := take_drop1 e5
  rw [e5] at t5
  obtain ⟨fl, hfl⟩ := bools_of_trod (v := .slice fa fn fc) ⟨_, _, _, rfl⟩ ⟨_, t5⟩
  refine ⟨x0, x1, x2, x3, x4, .slice fa fn fc, fl, ?_, wf_i64 w0, wf_i64 w1, wf_i64 w2, wf_i64 w3, wf_i64 w4, hfl⟩
  match l, hl6 with
  | [c0, c1, c2, c3, c4, c5], _ =>
    simp at g0 g1 g2 g3 g4 g5
    rw [g0, g1, g2, g3, g4, g5]
end Go.Proofs.Ytgnigkghkldcfaa
