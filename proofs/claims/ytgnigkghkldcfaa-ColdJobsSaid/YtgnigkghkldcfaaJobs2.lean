/-
  coldstorelaw07.ColdJobs: the worlds of its walk; the question at a round's end.
-/
import Derived.Test.YtgnigkghkldcfaaJobs1
import Derived.Test.YtgnigkghkldcfaaOps7
import Derived.Test.YtgnigkghkldcfaaMaskLaw
import Derived.Test.YtgnigkghkldcfaaAgain2
import Derived.Test.YtgnigkghkldcfaaSameL
namespace Go.Proofs.Ytgnigkghkldcfaa
open Go.RowKit Go.Proofs Go.Lib

/-- a cold store of the call's own, a map, and a box that is only read -/
structure J7 (w W : World) (cb sb mb hb ib : Nat) (f : Value) (S : Nat → Prop) (c : CS) (m : List (Bs × Value)) (inc : Array Value) : Prop where
  c7 : C7 w W cb sb mb f S c
  map : MapP Try.prog 9 W hb m
  box : W.heap[ib]? = some (.cells inc 67 (0, 0))
  nh : ¬ S hb ∧ hb ≠ cb ∧ hb ≠ mb
  ni : ¬ S ib ∧ ib ≠ cb ∧ ib ≠ mb
  hi : w.heap.size ≤ hb
section
variable {w W W' : World} {cb sb mb hb ib : Nat} {f : Value} {S : Nat → Prop} {c c' : CS} {m m' : List (Bs × Value)} {inc : Array Value}
theorem J7.ne (j : J7 w W cb sb mb hb ib f S c m inc) : hb ≠ ib := MapP.ne j.map j.box
theorem J7.still (j : J7 w W cb sb mb hb ib f S c m inc) (h : Keep (fun _ => False) W W') : J7 w W' cb sb mb hb ib f S c m inc := ⟨j.c7.still h, j.map.keep h id, h.heap j.box id, j.nh, j.ni, j.hi⟩
theorem J7.same (j : J7 w W cb sb mb hb ib f S c m inc) (h : ColdAt W' cb sb mb f S c') {F : Nat → Prop} (k : Keep F W W') (hF : ∀ x, F x → S x ∨ x = cb ∨ x = mb) : J7 w W' cb sb mb hb ib f S c' m inc :=
  ⟨j.c7.same h k hF, j.map.keep k (fun e => (hF _ e).elim j.nh.1 (fun e => e.elim j.nh.2.1 j.nh.2.2)), k.heap j.box (fun e => (hF _ e).elim j.ni.1 (fun e => e.elim j.ni.2.1 j.ni.2.2)), j.nh, j.ni, j.hi⟩
theorem J7.post (j : J7 w W cb sb mb hb ib f S c m inc) (h : ColdPost cb sb mb f S c' W W') : ∃ S', J7 w W' cb sb mb hb ib f S' c' m inc := by
  obtain ⟨S', h1, k, hg⟩ := j.c7.post h
  refine ⟨S', h1, j.map.keep k (fun e => e.elim j.nh.1 (fun e => e.elim j.nh.2.1 j.nh.2.2)), k.heap j.box (fun e => e.elim j.ni.1 (fun e => e.elim j.ni.2.1 j.ni.2.2)), ⟨fun e => ?_, j.nh.2⟩, ⟨fun e => ?_, j.ni.2⟩, j.hi⟩
  · rcases hg _ e with e | e
    · exact j.nh.1 e
    · have := j.map.lt; omega
  · rcases hg _ e with e | e
    · exact j.ni.1 e
    · have := lt_blk j.box; omega
theorem J7.put (j : J7 w W cb sb mb hb ib f S c m inc) (h : MapP Try.prog 9 W' hb m') (k : Keep (· = hb) W W') : J7 w W' cb sb mb hb ib f S c m' inc :=
  ⟨⟨j.c7.cold.keep k (fun x e => by rw [e]; exact j.nh), j.c7.low, j.c7.lcb, j.c7.lmb, j.c7.keep.trans' k (fun _ _ e => e) (fun i hi e => by have := j.hi; omega)⟩, h, k.heap j.box (fun e => j.ne e.symm), j.nh, j.ni, j.hi⟩
theorem J7.get (j : J7 w W cb sb mb hb ib f S c m inc) {nm : Bs} {now : Int} {e : Ending} (h : CGetPost cb sb mb f S c nm now W e W') : ∃ a n k, e = .returned (.tuple #[.slice a n k, .int .i64 (c.getCode nm now)]) ∧ J7 w W' cb sb mb hb ib f S { c with o := c.o.op } m inc ∧ BytesAt W' (.slice a n k) (c.getBytes nm now) := by
  obtain ⟨v, e1, h1, h2, h3, h4⟩ := h
  obtain ⟨_, a, k, rfl, _⟩ := id h3
  exact ⟨a, _, k, e1, j.same h1 h2 (fun _ => .inl), h3⟩
end

/-- within the question at a round's end -/
structure SJ7 (W0 W : World) (cb sb mb hb ib : Nat) (f : Value) (S : Nat → Prop) (c : CS) (m : List (Bs × Value)) (q jb fu li le : Int) (fv : Value) : Prop where
  cold : ColdAt W cb sb mb f S c
  map : MapP Try.prog 9 W hb m
  box : W.heap[ib]? = some (.cells #[.int .i64 q, .int .i64 jb, .int .i64 fu, .int .i64 li, .int .i64 le, fv] 67 (0, 0))
  keep : Keep (fun _ => False) W0 W
section
variable {W0 W W' : World} {cb sb mb hb ib : Nat} {f : Value} {S : Nat → Prop} {c : CS} {m : List (Bs × Value)} {q jb fu li le : Int} {fv : Value}
theorem SJ7.still (j : SJ7 W0 W cb sb mb hb ib f S c m q jb fu li le fv) (h : Keep (fun _ => False) W W') : SJ7 W0 W' cb sb mb hb ib f S c m q jb fu li le fv := ⟨j.cold.keep0 h, j.map.keep h id, h.heap j.box id, j.keep.trans h⟩
theorem SJ7.drew (j : SJ7 W0 W cb sb mb hb ib f S c m q jb fu li le fv) : SJ7 W0 W.drew cb sb mb hb ib f S c m q jb fu li le fv := j.still (Keep.refl _ _).drew
theorem SJ7.all (j : SJ7 W0 W cb sb mb hb ib f S c m q jb fu li le fv) : W.cell? ⟨ib, 1, none⟩ = some (.int .i64 jb) ∧ W.cell? ⟨cb, 0, none⟩ = some (.pointer (some ⟨sb, 0, none⟩)) ∧ (∀ ty : TypeId, (Builtin.len_ #[49] ty #[.map (some hb)]).run Try.prog W = .ok (.int .i64 m.length) W) ∧ SJ7 W0 W cb sb mb hb ib f S c m q jb fu li le fv :=
  ⟨by rw [cell_blk j.box]; rfl, by rw [cell_blk j.cold.blk]; rfl, fun ty => MapP.len Try.underlying49 j.map ty, j⟩
theorem SJ7.of {p0 p1 p2 : Prop} (h : p0 ∧ p1 ∧ p2 ∧ SJ7 W0 W cb sb mb hb ib f S c m q jb fu li le fv) : SJ7 W0 W cb sb mb hb ib f S c m q jb fu li le fv := h.2.2.2
end
end Go.Proofs.Ytgnigkghkldcfaa
