/-
  The arguments of coldstorelaw19's laws: a slice of snapshots; a policy.
-/
import Derived.Test.YtgnigkghkldcfaaFrame
import Derived.Test.YtgnigkghkldcfaaOpenOps
import Derived.Test.YtgnigkghkldcfaaBy1
import Derived.OpenShut
namespace Go.Proofs.Ytgnigkghkldcfaa
open Go.ChangeShapes Go.WideShapes Go.ChangeAt Go.RowKit Go.Deep

theorem flatN {α : Type} {encs : α → List Value} {k : Nat} : ∀ {L : List α}, (∀ p ∈ L, (encs p).length = k) → ∀ {i : Nat} {p : α}, L[i]? = some p → ∀ j, j < k → (L.flatMap encs)[i * k + j]? = (encs p)[j]?
  | [], _, i, p, h, _, _ => by simp at h
  | a :: r, hL, i, p, h, j, hj => by
    have ha := hL a (List.mem_cons_self ..)
    cases i with
    | zero =>
      simp at h; subst h
      rw [List.flatMap_cons, List.getElem?_append_left (by omega)]
      simp
    | succ i =>
      simp only [List.getElem?_cons_succ] at h
      have e : (i + 1) * k + j - (encs a).length = i * k + j := by rw [ha, Nat.succ_mul]; omega
      rw [List.flatMap_cons, List.getElem?_append_right (by rw [ha, Nat.succ_mul]; omega), e]
      exact flatN (fun p hp => hL p (List.mem_cons_of_mem _ hp)) h j hj
theorem flatN_len {α : Type} {encs : α → List Value} {k : Nat} : ∀ {L : List α}, (∀ p ∈ L, (encs p).length = k) → (L.flatMap encs).length = L.length * k
  | [], _ => by simp
  | a :: r, hL => by
    rw [List.flatMap_cons, List.length_append, hL a (List.mem_cons_self ..), flatN_len (fun p hp => hL p (List.mem_cons_of_mem _ hp)), List.length_cons, Nat.succ_mul]; omega
/-- a slice of things of k cells each, read thing for thing -/
theorem slice_of_each {α : Type} [Inhabited α] {w : World} {a : Addr} {n c k : Nat} {encs : α → List Value} {Q : α → Prop} (hk : 0 < k) (hQ : ∀ p, Q p → (encs p).length = k) (hnc : n ≤ c) (hc : c ≤ maxLen)
    (each : ∀ i, i < n → ∃ p : α, (∀ j, j < k → w.cell? (a.add (i * k + j)) = (encs p)[j]?) ∧ Q p) : ∃ L : List α, L.length = n ∧ Sl w k (.slice (some a) n c) L.length (L.flatMap encs) ∧ ∀ p ∈ L, Q p := by
  obtain ⟨f, hfe⟩ := choose_lt each
  have hq : ∀ p ∈ (List.range n).map f, Q p := fun p hp => by
    obtain ⟨i, hi, rfl⟩ := List.mem_map.1 hp
    exact (hfe i (List.mem_range.1 hi)).2
  have hlen : ((List.range n).map f).length = n := by simp
  refine ⟨(List.range n).map f, hlen, ⟨flatN_len (fun p hp => hQ p (hq p hp)), some a, c, by rw [hlen], by rw [hlen]; exact hnc, hc, (fun e => by cases e), fun hn => ?_⟩, hq⟩
  rw [hlen] at hn ⊢
  have h0 := (hfe 0 hn).1 0 hk
  have hspot : a.spot = none := by
    have hz : 0 < (encs (f 0)).length := by rw [hQ _ (hfe 0 hn).2]; exact hk
    rw [List.getElem?_eq_getElem hz, Nat.zero_mul] at h0
    simp only [Addr.add, Nat.add_zero] at h0
    exact World.cell?_spot (a := a) (by cases a; simpa [Addr.add] using h0)
  obtain ⟨b, o, sp⟩ := a
  simp only at hspot
  subst hspot
  refine ⟨b, o, rfl, fun j hj => ?_⟩
  have hjk : j / k * k + j % k = j := by rw [Nat.mul_comm]; exact Nat.div_add_mod j k
  have hi : j / k < n := (Nat.div_lt_iff_lt_mul hk).2 hj
  have hcell := (hfe (j / k) hi).1 (j % k) (Nat.mod_lt _ hk)
  rw [hjk, add_plain] at hcell
  rw [hcell]
  have hg : ((List.range n).map f)[j / k]? = some (f (j / k)) := by simp [hi]
  have q := flatN (fun p hp => hQ p (hq p hp)) hg (j % k) (Nat.mod_lt _ hk)
  rw [hjk] at q
  rw [q]

theorem cellsSnap : Try.prog.cellsOf 108 = 37 := by kernel_rfl
theorem cellsID : Try.prog.cellsOf 106 = 32 := by kernel_rfl
theorem cellsI64' : Try.prog.cellsOf 2 = 1 := by kernel_rfl

/-- 32 bytes, by value -/
theorem id_of_trod {H : Type} {enc : TypeId × Value → H} {w : World} {fuel : Nat} {cs : List Value} {x : DataW H × List MemPlace} (h : DataW.trod enc Try.prog w 0 (fun _ => true) true fuel 106 cs = some x) : ∃ l : Bs, l.length = 32 ∧ cs = bytesV l := by
  obtain ⟨xs, m, _, ex, hcl, hl, hel⟩ := DataW.trod_array Try.underlying106 h
  rw [cellsID] at hcl
  have each : ∀ i, i < 32 → ∃ b : UInt8, cs[i]? = some (.int .u8 (b.toNat : Int)) := by
    intro i hi
    have h1 := hel i hi
    rw [cellsByte, Nat.mul_one, List.getElem?_eq_getElem (by omega)] at h1
    obtain ⟨z, e1, _, hw⟩ := DataW.trod_int Try.underlying5 h1
    have h2 := take_drop1 e1
    have hz : 0 ≤ z ∧ z ≤ 255 := by
      simp only [Lit.wf, Bool.and_eq_true, decide_eq_true_eq] at hw
      have h1 : IntKind.u8.min = 0 := rfl
      have h2 : IntKind.u8.max = 255 := rfl
      rw [h1, h2] at hw
      exact hw
    refine ⟨UInt8.ofNat z.toNat, ?_⟩
    rw [h2]
    have : ((UInt8.ofNat z.toNat).toNat : Int) = z := by rw [UInt8.toNat_ofNat']; omega
    rw [this]
  obtain ⟨f, hf⟩ := choose_lt each
  refine ⟨(List.range 32).map f, by simp, ?_⟩
  apply List.ext_getElem?
  intro i
  by_cases hi : i < 32
  · rw [hf i hi]; simp [bytesV, hi]
  · rw [List.getElem?_eq_none (by omega), List.getElem?_eq_none (by simp [bytesV]; omega)]

theorem split37 {cs : List Value} {c0 c1 c2 c3 c4 : Value} {l : List Value} (hz : cs.length = 37) (hl : l.length = 32) (g0 : cs[0]? = some c0) (g1 : cs[1]? = some c1) (g2 : cs[2]? = some c2) (g3 : (cs.drop 3).take 32 = l) (g4 : cs[35]? = some c3) (g5 : cs[36]? = some c4) :
    cs = c0 :: c1 :: c2 :: (l ++ [c3, c4]) := by
  apply List.ext_getElem?
  intro i
  match i with
  | 0 => rw [g0]; rfl
  | 1 => rw [g1]; rfl
  | 2 => rw [g2]; rfl
  | i + 3 =>
    simp only [List.getElem?_cons_succ]
    by_cases h : i < 32
    · rw [List.getElem?_append_left (by omega), ← g3, List.getElem?_take, if_pos h, List.getElem?_drop]
      congr 1; omega
    · rw [List.getElem?_append_right (by omega), hl]
      by_cases h2 : i = 32
      · subst h2; rw [g4]; rfl
      · by_cases h3 : i = 33
        · subst h3; rw [g5]; rfl
        · rw [List.getElem?_eq_none (by omega), List.getElem?_eq_none (by simp; omega)]

/-- a snapshot's own bounds -/
def SnapOK (s : SnapR) : Prop := s.root.length = 32 ∧ In64 s.time ∧ In64 s.files ∧ In64 s.bytes

set_option maxRecDepth 10000 in
theorem snap_of_trod {H : Type} {enc : TypeId × Value → H} {w : World} {fuel : Nat} {cs : List Value} {x : DataW H × List MemPlace} (h : DataW.trod enc Try.prog w 0 (fun _ => true) true fuel 108 cs = some x) : ∃ s : SnapR, cs = snapCells s ∧ SnapOK s := by
  obtain ⟨xs, n', _, _, hcl, hlen, hfd⟩ := DataW.trod_struct Try.underlying108 h
  rw [cellsSnap] at hcl
  have t0 : DataW.trod enc Try.prog w 0 (fun _ => true) true n' 2 ((cs.drop 0).take (Try.prog.cellsOf 2)) = xs[0]? := hfd 0 _ rfl
  have t1 : DataW.trod enc Try.prog w 0 (fun _ => true) true n' 9 ((cs.drop 1).take (Try.prog.cellsOf 9)) = xs[1]? := hfd 1 _ rfl
  have t2 : DataW.trod enc Try.prog w 0 (fun _ => true) true n' 9 ((cs.drop 2).take (Try.prog.cellsOf 9)) = xs[2]? := hfd 2 _ rfl
  have t3 : DataW.trod enc Try.prog w 0 (fun _ => true) true n' 106 ((cs.drop 3).take (Try.prog.cellsOf 106)) = xs[3]? := hfd 3 _ rfl
  have t4 : DataW.trod enc Try.prog w 0 (fun _ => true) true n' 3 ((cs.drop 35).take (Try.prog.cellsOf 3)) = xs[4]? := hfd 4 _ rfl
  have t5 : DataW.trod enc Try.prog w 0 (fun _ => true) true n' 2 ((cs.drop 36).take (Try.prog.cellsOf 2)) = xs[5]? := hfd 5 _ rfl
  have hxl : xs.length = 6 := hlen
  rw [List.getElem?_eq_getElem (by omega)] at t0 t1 t2 t3 t4 t5
  rw [cellsI64'] at t0 t5; rw [cellsStr] at t1 t2; rw [cellsID] at t3; rw [cellsInt] at t4
  obtain ⟨x0, e0, _, w0⟩ := DataW.trod_int Try.underlying2 t0
  obtain ⟨x1, e1, _, _⟩ := DataW.trod_string Try.underlying9 t1
  obtain ⟨x2, e2, _, _⟩ := DataW.trod_string Try.underlying9 t2
  obtain ⟨l, hl, e3⟩ := id_of_trod t3
  obtain ⟨x4, e4, _, w4⟩ := DataW.trod_int Try.underlying3 t4
  obtain ⟨x5, e5, _, w5⟩ := DataW.trod_int Try.underlying2 t5
  refine ⟨⟨x0, x1.data.toList, x2.data.toList, l, x4, x5⟩, ?_, hl, wf_i64 w0, wf_i64 w4, wf_i64 w5⟩
  have hs : ∀ nm : ByteArray, strV nm.data.toList = .string nm := fun nm => by cases nm; simp [strV]
  unfold snapCells
  rw [hs, hs]
  exact split37 hcl (by rw [bytesV_len, hl]) (take_drop1 e0) (take_drop1 e1) (take_drop1 e2) e3 (take_drop1 e4) (take_drop1 e5)

theorem snaps_of_trod {H : Type} {enc : TypeId × Value → H} {w : World} {v : Value} {d : DataW H} {ps : List MemPlace}
    (hv : ∃ a n c, v = .slice a n c) (h : DataW.Trod enc Try.prog w 0 (fun _ => true) true 93 v d ps) : ∃ L, SnapsAt w v L ∧ ∀ s ∈ L, SnapOK s := by
  obtain ⟨fuel, hf⟩ := h
  obtain ⟨a0, n0, c0, rfl⟩ := hv
  rcases open_slice Try.underlying93 hf with ⟨hcs, hx⟩ | ⟨a, len, cap, m, n, D, Pl, hcs, _, hl, hm, hmm, hx, hel⟩
  · simp [Value.cells] at hcs
    obtain ⟨rfl, rfl, rfl⟩ := hcs
    exact ⟨[], Sl.nil _ _, fun _ hp => by cases hp⟩
  · simp [Value.cells] at hcs
    obtain ⟨rfl, rfl, rfl⟩ := hcs
    simp only [if_true] at hmm
    subst hmm
    have each : ∀ i, i < n0 → ∃ s : SnapR, (∀ j, j < 37 → w.cell? (a.add (i * 37 + j)) = (snapCells s)[j]?) ∧ SnapOK s := by
      intro i hi
      obtain ⟨cs, hc, ht⟩ := hel i (by omega)
      rw [cellsSnap] at hc
      obtain ⟨hb, hcl, hce⟩ := World.cells?_some hc
      obtain ⟨s, e, hs⟩ := snap_of_trod ht
      refine ⟨s, fun j hj => ?_, hs⟩
      rw [← e, ← add_add, hce j hj]
    obtain ⟨L, e, h1, h2⟩ := slice_of_each (a := a) (c := m) (by decide) (fun s hs => snapCells_len hs.1) hl hm each
    exact ⟨L, h1, h2⟩

set_option maxRecDepth 10000 in
theorem policy_of_trod {H : Type} {enc : TypeId × Value → H} {W w : World} {base : Nat} {v : Value} {d : DataW H} {ps : List MemPlace}
    (hv : Value.okWide Try.prog W .any base 95 v) (h : DataW.Trod enc Try.prog w 0 (fun _ => true) true 95 v d ps) : ∃ p : PolR, v = .agg (polCells p) ∧ In64 p.last ∧ In64 p.days ∧ In64 p.day ∧ In64 p.within := by
  obtain ⟨cs, rfl, hsz⟩ := okWide_struct Try.underlying95 hv
  obtain ⟨l⟩ := cs
  have hl5 : l.length = 5 := hsz.trans (by kernel_rfl)
  obtain ⟨fuel, hf⟩ := h
  obtain ⟨xs, n', _, _, _, hlen, hfd⟩ := DataW.trod_struct Try.underlying95 hf
  have t0 : DataW.trod enc Try.prog w 0 (fun _ => true) true n' 3 ((l.drop 0).take (Try.prog.cellsOf 3)) = xs[0]? := hfd 0 _ rfl
  have t1 : DataW.trod enc Try.prog w 0 (fun _ => true) true n' 3 ((l.drop 1).take (Try.prog.cellsOf 3)) = xs[1]? := hfd 1 _ rfl
  have t2 : DataW.trod enc Try.prog w 0 (fun _ => true) true n' 2 ((l.drop 2).take (Try.prog.cellsOf 2)) = xs[2]? := hfd 2 _ rfl
  have t3 : DataW.trod enc Try.prog w 0 (fun _ => true) true n' 2 ((l.drop 3).take (Try.prog.cellsOf 2)) = xs[3]? := hfd 3 _ rfl
  have t4 : DataW.trod enc Try.prog w 0 (fun _ => true) true n' 9 ((l.drop 4).take (Try.prog.cellsOf 9)) = xs[4]? := hfd 4 _ rfl
  have hxl : xs.length = 5 := hlen
  rw [List.getElem?_eq_getElem (by omega)] at t0 t1 t2 t3 t4
  rw [cellsInt] at t0 t1; rw [cellsI64'] at t2 t3; rw [cellsStr] at t4
  obtain ⟨x0, e0, _, w0⟩ := DataW.trod_int Try.underlying3 t0
  obtain ⟨x1, e1, _, w1⟩ := DataW.trod_int Try.underlying3 t1
  obtain ⟨x2, e2, _, w2⟩ := DataW.trod_int Try.underlying2 t2
  obtain ⟨x3, e3, _, w3⟩ := DataW.trod_int Try.underlying2 t3
  obtain ⟨x4, e4, _, _⟩ := DataW.trod_string Try.underlying9 t4
  have g0 := take_drop1 e0
  have g1 := take_drop1 e1
  have g2 := take_drop1 e2
  have g3 := take_drop1 e3
  have g4 := take_drop1 e4
  have hs : ∀ nm : ByteArray, strV nm.data.toList = .string nm := fun nm => by cases nm; simp [strV]
  refine ⟨⟨x0, x1, x2, x3, x4.data.toList⟩, ?_, wf_i64 w0, wf_i64 w1, wf_i64 w2, wf_i64 w3⟩
  unfold polCells
  rw [hs]
  match l, hl5 with
  | [c0, c1, c2, c3, c4], _ =>
    simp at g0 g1 g2 g3 g4
    rw [g0, g1, g2, g3, g4]
end Go.Proofs.Ytgnigkghkldcfaa
