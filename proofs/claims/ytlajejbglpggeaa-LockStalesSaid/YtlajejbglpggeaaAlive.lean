/-
  coldstorelaw06.alive: the document's example. No condition.
-/
import Derived.Test.YtlajejbglpggeaaNames
import Derived.Test.YtlajejbglpggeaaCatch
import Derived.Test.YtlajejbglpggeaaConv
namespace Go.Proofs.Ytlajejbglpggeaa
open Go.RowKit Go.Proofs Go.Lib

def sA : OS := (OS.new 3).put [120] [97, 98, 99, 100]
def sB : OS := sA.put [120] [97, 98, 99]
def sC : OS := sB.op.op.op
def sD : OS := (sC.arm 1 [true]).drop [120]
def sE : OS := sD.arm 0 []

theorem cA : (OS.new 3).putCode [120] [97, 98, 99, 100] = 31 := by decide
theorem cB : sA.putCode [120] [97, 98, 99] = 0 := by decide
theorem cC : sB.getCode [120] = 0 := by decide
theorem cC' : sB.getBytes [120] = [97, 98, 99] := by decide
theorem cD : sB.op.getCode [121] = 4 := by decide
theorem cE : sB.op.op.code = 0 := by decide
theorem cE' : sB.op.op.listed [] = [[120]] := by decide
theorem cF : (sC.arm 1 [true]).getCode [120] = 30 := by decide
theorem cG : sE.some 9 = [([120], 3)] := by decide
theorem cH : sE.ops = 6 := by decide
theorem cI : sE.row.length = 1 := by decide
theorem cJ : sizeR sE.row = 3 := by decide
theorem cK : sE.left = 0 := by decide

/-- A literal's bytes, in a block of their own, of which the store has none. -/
structure Litr (w : World) (S : Nat → Prop) (W : World) (v : Value) (l : Bs) : Prop where
  at' : ∃ g fr, v = .slice (some ⟨g, 0, none⟩) l.length l.length ∧ W.heap[g]? = some (.cells (bytesV l).toArray 5 fr) ∧ ¬ S g ∧ w.heap.size ≤ g

theorem Litr.bytes {w : World} {S : Nat → Prop} {W : World} {v : Value} {l : Bs} (h : Litr w S W v l) (hm : l.length ≤ maxLen) : BytesAt W v l := by
  obtain ⟨g, fr, rfl, h2, _⟩ := h.at'
  refine ⟨bytesV_length l, _, _, rfl, Nat.le_refl _, hm, (fun e => by cases e), fun _ => ⟨_, 0, rfl, fun j _ => ?_⟩⟩
  rw [cell_blk h2, Nat.zero_add]; simp
theorem Litr.keep {w : World} {S S' : Nat → Prop} {W W' : World} {v : Value} {l : Bs} (h : Litr w S W v l) {F : Nat → Prop} (hk : Keep F W W') (hF : ∀ g, F g → g < w.heap.size ∨ S g) (hS : ∀ g, S' g → S g ∨ W.heap.size ≤ g) : Litr w S' W' v l := by
  obtain ⟨g, fr, e, h2, h3, h4⟩ := h.at'
  exact ⟨g, fr, e, hk.heap h2 (fun f => (hF g f).elim (fun e => by omega) h3), fun s => (hS g s).elim h3 (fun e => by have := lt_blk h2; omega), h4⟩
theorem Litr.made {w : World} {S : Nat → Prop} (W : World) (l : Bs) {cs : Array Value} {n : Nat} (hn : l.length = n) (hc : (bytesV l).toArray = cs) (hS : ∀ g, S g → g < W.heap.size) (hw : w.heap.size ≤ W.heap.size) : Litr w S (W.alloc (.cells cs 5)) (.slice (some ⟨W.heap.size, 0, none⟩) n n) l := by
  subst hn; subst hc
  exact ⟨_, _, rfl, alloc_new _ _, fun e => by have := hS _ e; omega, hw⟩

/-- the mark that a conversion lays turns no cell -/
theorem freeze_keep (W : World) (g n : Nat) : Keep (· = g) W (W.freeze ⟨g, n, none⟩ 1) := by
  unfold World.freeze
  rw [if_neg (by decide)]
  refine ⟨rfl, rfl, rfl, by simp, fun k hk hn => ?_⟩
  simp only [Array.getElem?_modify]
  rw [if_neg (fun e => hn e.symm)]
theorem freeze_at {W : World} {g n : Nat} {C : Array Value} {t : TypeId} {fr : Nat × Nat} (h : W.heap[g]? = some (.cells C t fr)) : ∃ fr', (W.freeze ⟨g, n, none⟩ 1).heap[g]? = some (.cells C t fr') := by
  unfold World.freeze
  rw [if_neg (by decide)]
  simp only [Array.getElem?_modify, if_true, h]
  exact ⟨_, rfl⟩

def SameCells (W W' : World) : Prop := ∀ (k : Nat) (C : Array Value) (t : TypeId) (fr : Nat × Nat), W.heap[k]? = some (.cells C t fr) → ∃ fr', W'.heap[k]? = some (.cells C t fr')

theorem Litr.convert {w : World} {S : Nat → Prop} {W : World} {v : Value} {l : Bs} (h : Litr w S W v l) : ∃ g W', (convert 27 27 v).run Try.prog W = .ok v W' ∧ Litr w S W' v l ∧ Keep (· = g) W W' ∧ ¬ S g ∧ w.heap.size ≤ g ∧ (∃ C fr, W.heap[g]? = some (.cells C 5 fr)) ∧
    SameCells W W' := by
  obtain ⟨g, fr, rfl, h2, h3, h4⟩ := h.at'
  have ht := Try.underlying27
  have he := Try.underlying5
  have hsh : W.shape? g = some (5, (bytesV l).toArray.size) := by
    unfold World.shape?
    rw [h2]
  refine ⟨g, W.freeze ⟨g, (bytesV l).toArray.size, none⟩ 1, ?_, ?_, freeze_keep W g _, h3, h4, ⟨_, _, h2⟩, ?_⟩
  · simp [Go.convert, run_underlying ht, run_underlying he, markStringish, hsh]
  · obtain ⟨fr', e⟩ := freeze_at (n := (bytesV l).toArray.size) h2
    exact ⟨g, fr', rfl, e, h3, h4⟩
  · intro k C t fr0 hk
    by_cases e : k = g
    · subst e; exact freeze_at hk
    · exact ⟨fr0, ((freeze_keep W g _).heap hk e)⟩

/-- within the two puts -/
structure AliveJ (w : World) (p sb : Nat) (S : Nat → Prop) (b0 b1 b2 b3 b4 b5 b6 b7 b8 b9 : Bool) (q3 q4 q24 q25 q26 q27 q28 q29 q30 q31 : Value) (W : World) : Prop where
  o73 : b7 = true → b3 = true
  o32 : b3 = true → b2 = true
  o76 : b7 = true → b6 = true
  m24 : b0 = true → q24 = .pointer (some ⟨sb, 0, none⟩)
  m25 : b1 = true → b2 = false → Litr w S W q25 [97, 98, 99, 100]
  m26 : b2 = true → b3 = false → Litr w S W q26 [97, 98, 99, 100]
  m27 : b3 = true → q27 = .int .i64 31
  m28 : b4 = true → q28 = .pointer (some ⟨sb, 0, none⟩)
  m29 : b5 = true → b6 = false → Litr w S W q29 [97, 98, 99]
  m30 : b6 = true → b7 = false → Litr w S W q30 [97, 98, 99]
  m31 : b7 = true → q31 = .int .i64 0
  m3 : b8 = true → q3 = .int .i64 31
  m4 : b9 = true → q4 = .int .i64 0
  st : St W sb (.pointer none) S (if b3 then (if b7 then sB else sA) else OS.new 3)
  box : W.heap[p]? = some (.cells #[.pointer (some ⟨sb, 0, none⟩)] 28 (0, 0))
  ns : ¬ S p
  low : ∀ b, S b → w.heap.size ≤ b
  keep : Keep (fun _ => False) w W

section
variable {w : World} {p sb : Nat} {S : Nat → Prop} {b0 b1 b2 b3 b4 b5 b6 b7 b8 b9 : Bool} {q3 q4 q24 q25 q26 q27 q28 q29 q30 q31 : Value} {W : World}

theorem AliveJ.kept (j : AliveJ w p sb S b0 b1 b2 b3 b4 b5 b6 b7 b8 b9 q3 q4 q24 q25 q26 q27 q28 q29 q30 q31 W) (o : Obj) :
    AliveJ w p sb S b0 b1 b2 b3 b4 b5 b6 b7 b8 b9 q3 q4 q24 q25 q26 q27 q28 q29 q30 q31 (W.alloc o) := by
  have hk : Keep (fun _ => False) W (W.alloc o) := (Keep.refl _ W).alloc o
  exact { j with
    m25 := fun h h3 => (j.m25 h h3).keep hk (fun _ e => e.elim) (fun _ => .inl)
    m26 := fun h h3 => (j.m26 h h3).keep hk (fun _ e => e.elim) (fun _ => .inl)
    m29 := fun h h3 => (j.m29 h h3).keep hk (fun _ e => e.elim) (fun _ => .inl)
    m30 := fun h h3 => (j.m30 h h3).keep hk (fun _ e => e.elim) (fun _ => .inl)
    st := j.st.keep0 hk, box := hk.heap j.box id, keep := j.keep.trans hk }

theorem Litr.frozen {W' : World} {v : Value} {l : Bs} (h : Litr w S W v l) (hf : SameCells W W') : Litr w S W' v l := by
  obtain ⟨g, fr, e, h2, h3, h4⟩ := h.at'
  obtain ⟨fr', h5⟩ := hf _ _ _ _ h2
  exact ⟨g, fr', e, h5, h3, h4⟩

theorem AliveJ.frozen (j : AliveJ w p sb S b0 b1 b2 b3 b4 b5 b6 b7 b8 b9 q3 q4 q24 q25 q26 q27 q28 q29 q30 q31 W) {W' : World} {g : Nat} (hk : Keep (· = g) W W') (hS : ¬ S g) (hw : w.heap.size ≤ g) (hg : ∃ C fr, W.heap[g]? = some (.cells C 5 fr))
    (hf : SameCells W W') :
    AliveJ w p sb S b0 b1 b2 b3 b4 b5 b6 b7 b8 b9 q3 q4 q24 q25 q26 q27 q28 q29 q30 q31 W' := by
  exact { j with
    m25 := fun h h3 => (j.m25 h h3).frozen hf
    m26 := fun h h3 => (j.m26 h h3).frozen hf
    m29 := fun h h3 => (j.m29 h h3).frozen hf
    m30 := fun h h3 => (j.m30 h h3).frozen hf
    st := j.st.keep hk (fun b e => by rw [e]; exact hS)
    box := hk.heap j.box (fun e => by obtain ⟨C, fr, h⟩ := hg; rw [← e, j.box] at h; cases h)
    keep := j.keep.trans' hk (fun _ _ e => e) (fun i hi e => by omega) }

theorem AliveJ.put1 {S' : Nat → Prop} {W' : World} (j : AliveJ w p sb S b0 b1 true false b4 b5 b6 false b8 b9 q3 q4 q24 q25 q26 q27 q28 q29 q30 q31 W)
    (h : St W' sb (.pointer none) S' sA) (ht : Turn S S' W W') : AliveJ w p sb S' b0 b1 true true b4 b5 b6 false b8 b9 q3 q4 q24 q25 q26 (.int .i64 31) q28 q29 q30 q31 W' where
  o73 := fun _ => rfl
  o32 := fun _ => rfl
  o76 := j.o76
  m24 := j.m24
  m25 := fun _ h => by cases h
  m26 := fun _ h => by cases h
  m27 := fun _ => rfl
  m28 := j.m28
  m29 := fun h5 h7 => (j.m29 h5 h7).keep ht.keep (fun _ => .inr) ht.grow
  m30 := fun h5 h7 => (j.m30 h5 h7).keep ht.keep (fun _ => .inr) ht.grow
  m31 := j.m31
  m3 := j.m3
  m4 := j.m4
  st := h
  box := ht.keep.heap j.box j.ns
  ns := ht.not j.ns (lt_blk j.box)
  low := fun b e => (ht.grow b e).elim (j.low b) (fun e => Nat.le_trans j.keep.size e)
  keep := j.keep.trans' ht.keep (fun _ _ e => e) (fun i hi e => by have := j.low i e; omega)

theorem AliveJ.put2 {S' : Nat → Prop} {W' : World} (j : AliveJ w p sb S b0 b1 true true b4 b5 true false b8 b9 q3 q4 q24 q25 q26 q27 q28 q29 q30 q31 W)
    (h : St W' sb (.pointer none) S' sB) (ht : Turn S S' W W') : AliveJ w p sb S' b0 b1 true true b4 b5 true true b8 b9 q3 q4 q24 q25 q26 q27 q28 q29 q30 (.int .i64 0) W' where
  o73 := fun _ => rfl
  o32 := fun _ => rfl
  o76 := fun _ => rfl
  m24 := j.m24
  m25 := fun _ h => by cases h
  m26 := fun _ h => by cases h
  m27 := j.m27
  m28 := j.m28
  m29 := fun _ h => by cases h
  m30 := fun _ h => by cases h
  m31 := fun _ => rfl
  m3 := j.m3
  m4 := j.m4
  st := h
  box := ht.keep.heap j.box j.ns
  ns := ht.not j.ns (lt_blk j.box)
  low := fun b e => (ht.grow b e).elim (j.low b) (fun e => Nat.le_trans j.keep.size e)
  keep := j.keep.trans' ht.keep (fun _ _ e => e) (fun i hi e => by have := j.low i e; omega)
end

/-- between two statements of the example -/
structure AliveK (w : World) (p sb : Nat) (f : Value) (S : Nat → Prop) (s : OS) (W : World) : Prop where
  st : St W sb f S s
  box : W.heap[p]? = some (.cells #[.pointer (some ⟨sb, 0, none⟩)] 28 (0, 0))
  ns : ¬ S p
  low : ∀ b, S b → w.heap.size ≤ b
  keep : Keep (fun _ => False) w W

theorem AliveK.turn {w : World} {p sb : Nat} {f f' : Value} {S S' : Nat → Prop} {s s' : OS} {W W' : World} (j : AliveK w p sb f S s W) (h : St W' sb f' S' s') (ht : Turn S S' W W') : AliveK w p sb f' S' s' W' where
  st := h
  box := ht.keep.heap j.box j.ns
  ns := ht.not j.ns (lt_blk j.box)
  low := fun b e => (ht.grow b e).elim (j.low b) (fun e => Nat.le_trans j.keep.size e)
  keep := j.keep.trans' ht.keep (fun _ _ e => e) (fun i hi e => by have := j.low i e; omega)
theorem AliveK.cell {w : World} {p sb : Nat} {f : Value} {S : Nat → Prop} {s : OS} {W : World} (j : AliveK w p sb f S s W) : W.cell? ⟨p, 0, none⟩ = some (.pointer (some ⟨sb, 0, none⟩)) := by
  rw [cell_blk j.box]; rfl

/-- bytes of which the store has none -/
structure Prot (S : Nat → Prop) (W : World) (v : Value) (l : Bs) : Prop where
  at' : BytesAt W v l
  no : ∀ x, vblk v = some x → ¬ S x
  pos : 0 < l.length
theorem Prot.turn {S S' : Nat → Prop} {W W' : World} {v : Value} {l : Bs} (h : Prot S W v l) (ht : Turn S S' W W') : Prot S' W' v l :=
  ⟨Sl.keep h.at' ht.keep (fun x _ e => h.no x e), fun x e => ht.not (h.no x e) (Sl.lt h.at' (by decide) h.pos e), h.pos⟩

theorem AliveK.arm {w : World} {p sb fb : Nat} {f0 : Value} {S : Nat → Prop} {s s' : OS} {W W' : World} {n : Int} {e : Ending} (j : AliveK w p sb f0 S s W) (hA : ArmSt sb (.pointer (some ⟨fb, 0, none⟩)) S s' W e W') (hf : FuseAt W fb n) (lo : w.heap.size ≤ fb) :
    ∃ S', e = .returned (.tuple #[]) ∧ AliveK w p sb (.pointer (some ⟨fb, 0, none⟩)) S' s' W' ∧ Keep (· = sb) W W' ∧ ∀ x, x < W.heap.size → ¬ S x → x ≠ fb → ¬ S' x := by
  obtain ⟨S', e1, h1, hk, hg⟩ := hA
  have hps : p ≠ sb := fun e => j.ns (by rw [e]; exact j.st.self)
  have hpf : p ≠ fb := fun e => by
    have := hf.1
    rw [← e, j.box] at this
    simp at this
  have hno : ∀ x, x < W.heap.size → ¬ S x → x ≠ fb → ¬ S' x := fun x hx hS hxf h => by
    rcases hg x h with h | h | h
    · exact hS h
    · simp [vblk] at h; omega
    · omega
  refine ⟨S', e1, ⟨h1, hk.heap j.box hps, hno _ (lt_blk j.box) j.ns hpf, fun b hb => ?_, j.keep.trans' hk (fun _ _ e => e) (fun i hi e => by have := j.low sb j.st.self; omega)⟩, hk, hno⟩
  rcases hg b hb with h | h | h
  · exact j.low b h
  · simp [vblk] at h; omega
  · exact Nat.le_trans j.keep.size h
theorem Prot.arm {w : World} {p sb fb : Nat} {f0 : Value} {S S' : Nat → Prop} {s : OS} {W W' : World} {v : Value} {l : Bs} (h : Prot S W v l) (j : AliveK w p sb f0 S s W) (hk : Keep (· = sb) W W') (hno : ∀ x, x < W.heap.size → ¬ S x → x ≠ fb → ¬ S' x) (hfb : ∀ x, vblk v = some x → x ≠ fb) : Prot S' W' v l :=
  ⟨Sl.keep h.at' hk (fun x _ e e2 => h.no x e (by rw [e2]; exact j.st.self)), fun x e => hno x (Sl.lt h.at' (by decide) h.pos e) (h.no x e) (hfb x e), h.pos⟩

/-- within the first Arm -/
structure AliveR (w W4 : World) (p sb : Nat) (c : Value) (f : Value) (S : Nat → Prop) (b0 b1 b2 b3 : Bool) (q53 q54 q55 : Value) (W : World) : Prop where
  m53 : b0 = true → q53 = .pointer (some ⟨sb, 0, none⟩)
  m54 : b1 = true → ∃ fb, q54 = .pointer (some ⟨fb, 0, none⟩) ∧ (b3 = false → FuseAt W fb 1) ∧ W4.heap.size ≤ fb
  m55 : b2 = true → b3 = false → Sl W 1 q55 1 [.bool true]
  k : AliveK w p sb f S (if b3 then sC.arm 1 [true] else sC) W
  pr : Prot S W c [97, 98, 99]
  size : W4.heap.size ≤ W.heap.size
  old : ∀ x, vblk c = some x → x < W4.heap.size
  base : w.heap.size ≤ W4.heap.size
  fz : b3 = true → ∃ fb, f = .pointer (some ⟨fb, 0, none⟩)

theorem AliveR.kept {w W4 : World} {p sb : Nat} {c f : Value} {S : Nat → Prop} {b0 b1 b2 b3 : Bool} {q53 q54 q55 : Value} {W W' : World} (j : AliveR w W4 p sb c f S b0 b1 b2 b3 q53 q54 q55 W) (hk : Keep (fun _ => False) W W') :
    AliveR w W4 p sb c f S b0 b1 b2 b3 q53 q54 q55 W' := by
  refine { j with m54 := fun h => ?_, m55 := fun h h3 => Sl.keep (j.m55 h h3) hk (fun _ _ _ e => e), k := j.k.turn (j.k.st.keep0 hk) ⟨hk.mono (fun _ _ e => e.elim), fun _ => .inl⟩, pr := j.pr.turn ⟨hk.mono (fun _ _ e => e.elim), fun _ => .inl⟩, size := Nat.le_trans j.size hk.size }
  obtain ⟨fb, e1, e2, e3⟩ := j.m54 h
  exact ⟨fb, e1, fun h => (e2 h).keep hk id, e3⟩

end Go.Proofs.Ytlajejbglpggeaa
