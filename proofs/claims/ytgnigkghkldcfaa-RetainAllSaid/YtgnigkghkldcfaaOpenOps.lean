/-
  An argument []Op, read as a list of steps.
-/
import Derived.Test.YtgnigkghkldcfaaFrame
import Derived.Test.YtgnigkghkldcfaaOps6
import Derived.Deep.Slices
import Derived.Deep.Strs
import Derived.Deep.Grids

/-! An argument []Op, read as a list of steps. -/
namespace Go.Proofs.Ytgnigkghkldcfaa
open Go.ChangeShapes Go.WideShapes Go.ChangeAt Go.RowKit Go.Deep

theorem cellsOp : Try.prog.cellsOf 38 = 3 := by kernel_rfl
theorem cellsInt : Try.prog.cellsOf 3 = 1 := by kernel_rfl
theorem cellsStr : Try.prog.cellsOf 9 = 1 := by kernel_rfl
theorem cellsBytes : Try.prog.cellsOf 36 = 1 := by kernel_rfl
theorem cellsByte : Try.prog.cellsOf 5 = 1 := by kernel_rfl

theorem add_plain (b o j : Nat) : (⟨b, o, none⟩ : Addr).add j = ⟨b, o + j, none⟩ := by unfold Addr.add; split <;> simp_all
theorem take_drop1 {l : List Value} {k : Nat} {v : Value} (h : (l.drop k).take 1 = [v]) : l[k]? = some v := by
  have : ((l.drop k).take 1)[0]? = some v := by rw [h]; rfl
  simpa using this

theorem ops_of_trod {H : Type} {enc : TypeId × Value → H} {w : World} {v : Value} {d : DataW H} {ps : List MemPlace}
    (hv : ∃ a n c, v = .slice a n c) (h : DataW.Trod enc Try.prog w 0 (fun _ => true) true 23 v d ps) : ∃ L, OpsAt w v L ∧ ∀ p ∈ L, -9223372036854775808 ≤ p.1.kind ∧ p.1.kind ≤ 9223372036854775807 := by
  obtain ⟨fuel, hf⟩ := h
  obtain ⟨a0, n0, c0, rfl⟩ := hv
  rcases open_slice Try.underlying23 hf with ⟨hcs, hx⟩ | ⟨a, len, cap, m, n, D, Pl, hcs, _, hl, hm, hmm, hx, hel⟩
  · simp [Value.cells] at hcs
    obtain ⟨rfl, rfl, rfl⟩ := hcs
    exact ⟨[], ⟨Sl.nil _ _, fun _ hp => by cases hp⟩, fun _ hp => by cases hp⟩
  · simp [Value.cells] at hcs
    obtain ⟨rfl, rfl, rfl⟩ := hcs
    simp only [if_true] at hmm
    subst hmm
    have each : ∀ i, i < n0 → ∃ p : Op6 × Value, (∀ j, j < 3 → w.cell? (a.add (i * 3 + j)) = (stepCells p)[j]?) ∧ BytesAt w p.2 p.1.b ∧ -9223372036854775808 ≤ p.1.kind ∧ p.1.kind ≤ 9223372036854775807 := by
      intro i hi
      obtain ⟨cs, hc, ht⟩ := hel i (by omega)
      rw [cellsOp] at hc
      obtain ⟨hb, hcl, hce⟩ := World.cells?_some hc
      obtain ⟨y0, y1, y2, k, _, _, t0, t1, t2⟩ := trod_struct3 Try.underlying38 ht
      simp only [cellsInt, cellsStr, cellsBytes] at t0 t1 t2
      obtain ⟨x, e0, _, hw⟩ := DataW.trod_int Try.underlying3 t0
      obtain ⟨nm, e1, _, _⟩ := DataW.trod_string Try.underlying9 t1
      have hsl : ∃ a n c, (cs.drop 2).take 1 = [.slice a n c] := by
        rcases DataW.trod_slice Try.underlying36 t2 with ⟨e, _⟩ | ⟨a, l, c, _, _, _, _, e, _⟩
        · exact ⟨_, _, _, e⟩
        · exact ⟨_, _, _, e⟩
      obtain ⟨ba, bn, bc, e2⟩ := hsl
      rw [e2] at t2
      obtain ⟨l, hB⟩ := bytes_of_trod (v := .slice ba bn bc) Try.underlying36 Try.underlying5 cellsByte ⟨_, _, _, rfl⟩ ⟨_, t2⟩
      have g0 := take_drop1 e0
      have g1 := take_drop1 e1
      have g2 := take_drop1 e2
      refine ⟨(⟨x, nm.data.toList, l⟩, .slice ba bn bc), fun j hj => ?_, hB, ?_⟩
      · have hs : strV nm.data.toList = .string nm := by cases nm; simp [strV]
        rw [← add_add, hce j hj]
        match j, hj with
        | 0, _ => rw [g0]; rfl
        | 1, _ => rw [g1]; simp [stepCells, hs]
        | 2, _ => rw [g2]; rfl
      · have h1 : IntKind.i64.min = -9223372036854775808 := rfl
        have h2 : IntKind.i64.max = 9223372036854775807 := rfl
        simp only [Lit.wf, Bool.and_eq_true, decide_eq_true_eq] at hw
        rw [h1, h2] at hw
        exact hw
    haveI : Inhabited (Op6 × Value) := ⟨(⟨0, [], []⟩, undef)⟩
    obtain ⟨f, hfe⟩ := choose_lt each
    refine ⟨(List.range n0).map f, ⟨?_, ?_⟩, ?_⟩
    · have hlen : ((List.range n0).map f).length = n0 := by simp
      have hfl : ∀ (L : List (Op6 × Value)), (L.flatMap stepCells).length = L.length * 3 := by
        intro L
        induction L with
        | nil => rfl
        | cons a r ih => simp [stepCells, ih]; omega
      refine ⟨hfl _, some a, m, by rw [hlen], by rw [hlen]; exact hl, hm, (fun e => by cases e), fun hn => ?_⟩
      rw [hlen] at hn ⊢
      have h0 := (hfe 0 hn).1 0 (by decide)
      have hspot : a.spot = none := by
        have : w.cell? a = some (.int .i64 (f 0).1.kind) := by simpa [Addr.add, stepCells] using h0
        exact World.cell?_spot this
      obtain ⟨b, o, sp⟩ := a
      simp only at hspot
      subst hspot
      refine ⟨b, o, rfl, fun j hj => ?_⟩
      have hj3 : j = j / 3 * 3 + j % 3 := by omega
      have hi : j / 3 < n0 := by omega
      have hcell := (hfe (j / 3) hi).1 (j % 3) (by omega)
      rw [← hj3] at hcell
      rw [add_plain] at hcell
      rw [hcell]
      have hg : ((List.range n0).map f)[j / 3]? = some (f (j / 3)) := by simp [hi]
      obtain ⟨q0, q1, q2⟩ := flat_get hg
      have hr : j % 3 = 0 ∨ j % 3 = 1 ∨ j % 3 = 2 := by omega
      obtain ⟨i, hji⟩ : ∃ i, j / 3 = i := ⟨_, rfl⟩
      rw [hji] at q0 q1 q2 hj3 ⊢
      rcases hr with hr | hr | hr
      · rw [hr] at hj3 ⊢
        rw [hj3, Nat.add_zero, q0]; rfl
      · rw [hr] at hj3 ⊢
        rw [hj3, q1]; rfl
      · rw [hr] at hj3 ⊢
        rw [hj3, q2]; rfl
    · intro p hp
      obtain ⟨i, hi, rfl⟩ := List.mem_map.1 hp
      exact (hfe i (List.mem_range.1 hi)).2.1
    · intro p hp
      obtain ⟨i, hi, rfl⟩ := List.mem_map.1 hp
      exact (hfe i (List.mem_range.1 hi)).2.2
end Go.Proofs.Ytgnigkghkldcfaa

/-! An argument []bool, read as a list. -/
namespace Go.Proofs.Ytgnigkghkldcfaa
open Go.ChangeShapes Go.WideShapes Go.ChangeAt Go.RowKit Go.Deep

theorem bools_of_trod {H : Type} {enc : TypeId × Value → H} {w : World} {v : Value} {d : DataW H} {ps : List MemPlace}
    (hv : ∃ a n c, v = .slice a n c) (h : DataW.Trod enc Try.prog w 0 (fun _ => true) true 22 v d ps) : ∃ l : List Bool, Sl w 1 v l.length (l.map .bool) := by
  obtain ⟨fuel, hf⟩ := h
  obtain ⟨a0, n0, c0, rfl⟩ := hv
  rcases open_bools Try.underlying22 Try.underlying4 (by kernel_rfl) hf with ⟨hcs, hx⟩ | ⟨a, len', cap', B, hcs, _, hl, hm, hx, hcell⟩
  · simp [Value.cells] at hcs
    obtain ⟨rfl, rfl, rfl⟩ := hcs
    exact ⟨[], Sl.nil _ _⟩
  · simp [Value.cells] at hcs
    obtain ⟨rfl, rfl, rfl⟩ := hcs
    refine ⟨(List.range n0).map B, by simp, some a, c0, by simp, by simpa using hl, hm, (fun e => by cases e), fun hn => ?_⟩
    simp at hn
    have h0 := hcell 0 (by omega)
    have hspot : a.spot = none := by simpa [Addr.add] using World.cell?_spot h0
    obtain ⟨b, o, sp⟩ := a
    simp only at hspot
    subst hspot
    refine ⟨b, o, rfl, fun j hj => ?_⟩
    have hj' : j < n0 := by simpa using hj
    have hcj := hcell j (by omega)
    have hplain : (⟨b, o, none⟩ : Addr).add j = ⟨b, o + j, none⟩ := by unfold Addr.add; split <;> simp_all
    rw [hplain] at hcj
    rw [hcj]
    simp [hj']
end Go.Proofs.Ytgnigkghkldcfaa
