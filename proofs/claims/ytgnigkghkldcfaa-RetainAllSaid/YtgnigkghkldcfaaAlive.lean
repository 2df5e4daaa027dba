/-
  coldstorelaw06.alive: the document's example. No condition.
-/
import Derived.Test.YtgnigkghkldcfaaNames
import Derived.Test.YtgnigkghkldcfaaCatch
import Derived.Test.YtgnigkghkldcfaaConv
namespace Go.Proofs.Ytgnigkghkldcfaa
open Go.RowKit Go.Proofs Go.Lib

theorem alive1_blow {w : World} {sb fb : Nat} {S : Nat → Prop} {s : OS} (h : St w sb (.pointer (some ⟨fb, 0, none⟩)) S s) (hl : s.left = 0) (p : Nat) (hp : w.cell? ⟨p, 0, none⟩ = some (.pointer (some ⟨sb, 0, none⟩))) :
    Calls Try.prog 61 #[.pointer (some ⟨p, 0, none⟩)] w fun e w' => e = .panicked (blowChain fb) ∧ Keep (fun _ => False) w w' := by
  have HC := h.drop_blow hl ⟨#[120]⟩
  clear h
  go_enter Try.func61, Try.ntmps61
  go_wp2_with fail
  refine HC.mono ?_
  rintro e w' ⟨rfl, hk⟩
  exact ⟨rfl, rfl, hk⟩

def sA : OS := (OS.new 3).put [120] [97, 98, 99, 100]
def sB : OS := sA.put [120] [97, 98, 99]
def sC : OS := sB.op.op.op
def sD : OS := (sC.arm 1 [true]).drop [120]
def sE : OS := sD.arm 0 []

theorem cA : (OS.new 3).putCode [120] [97, 98, 99, 100] = 31 := by decide
theorem cB : sA.putCode [120] [97, 98, 99] = 0 := by decide
theorem cC : sB.getCode [120] = 0 := by decide
theorem cC' : sB.getBytes [120] = [97, 98, 99] := by decide
theorem cD : sB.op.getCode [121] = 4 := by decide
theorem cE : sB.op.op.code = 0 := by decide
theorem cE' : sB.op.op.listed [] = [[120]] := by decide
theorem cF : (sC.arm 1 [true]).getCode [120] = 30 := by decide
theorem cG : sE.some 9 = [([120], 3)] := by decide
theorem cH : sE.ops = 6 := by decide
theorem cI : sE.row.length = 1 := by decide
theorem cJ : sizeR sE.row = 3 := by decide
theorem cK : sE.left = 0 := by decide

/-- A literal's bytes, in a block of their own, of which the store has none. -/
structure Litr (w : World) (S : Nat → Prop) (W : World) (v : Value) (l : Bs) : Prop where
  at' : ∃ g fr, v = .slice (some ⟨g, 0, none⟩) l.length l.length ∧ W.heap[g]? = some (.cells (bytesV l).toArray 5 fr) ∧ ¬ S g ∧ w.heap.size ≤ g

theorem Litr.bytes {w : World} {S : Nat → Prop} {W : World} {v : Value} {l : Bs} (h : Litr w S W v l) (hm : l.length ≤ maxLen) : BytesAt W v l := by
  obtain ⟨g, fr, rfl, h2, _⟩ := h.at'
  refine ⟨bytesV_length l, _, _, rfl, Nat.le_refl _, hm, (fun e => by cases e), fun _ => ⟨_, 0, rfl, fun j _ => ?_⟩⟩
  rw [cell_blk h2, Nat.zero_add]; simp
theorem Litr.keep {w : World} {S S' : Nat → Prop} {W W' : World} {v : Value} {l : Bs} (h : Litr w S W v l) {F : Nat → Prop} (hk : Keep F W W') (hF : ∀ g, F g → g < w.heap.size ∨ S g) (hS : ∀ g, S' g → S g ∨ W.heap.size ≤ g) : Litr w S' W' v l := by
  obtain ⟨g, fr, e, h2, h3, h4⟩ := h.at'
  exact ⟨g, fr, e, hk.heap h2 (fun f => (hF g f).elim (fun e => by omega) h3), fun s => (hS g s).elim h3 (fun e => by have := lt_blk h2; omega), h4⟩
theorem Litr.made {w : World} {S : Nat → Prop} (W : World) (l : Bs) {cs : Array Value} {n : Nat} (hn : l.length = n) (hc : (bytesV l).toArray = cs) (hS : ∀ g, S g → g < W.heap.size) (hw : w.heap.size ≤ W.heap.size) : Litr w S (W.alloc (.cells cs 5)) (.slice (some ⟨W.heap.size, 0, none⟩) n n) l := by
  subst hn; subst hc
  exact ⟨_, _, rfl, alloc_new _ _, fun e => by have := hS _ e; omega, hw⟩

/-- the mark that a conversion lays turns no cell -/
theorem freeze_keep (W : World) (g n : Nat) : Keep (· = g) W (W.freeze ⟨g, n, none⟩ 1) := by
  unfold World.freeze
  rw [if_neg (by decide)]
  refine ⟨rfl, rfl, rfl, by simp, fun k hk hn => ?_⟩
  simp only [Array.getElem?_modify]
  rw [if_neg (fun e => hn e.symm)]
theorem freeze_at {W : World} {g n : Nat} {C : Array Value} {t : TypeId} {fr : Nat × Nat} (h : W.heap[g]? = some (.cells C t fr)) : ∃ fr', (W.freeze ⟨g, n, none⟩ 1).heap[g]? = some (.cells C t fr') := by
  unfold World.freeze
  rw [if_neg (by decide)]
  simp only [Array.getElem?_modify, if_true, h]
  exact ⟨_, rfl⟩

def SameCells (W W' : World) : Prop := ∀ (k : Nat) (C : Array Value) (t : TypeId) (fr : Nat × Nat), W.heap[k]? = some (.cells C t fr) → ∃ fr', W'.heap[k]? = some (.cells C t fr')

theorem Litr.convert {w : World} {S : Nat → Prop} {W : World} {v : Value} {l : Bs} (h : Litr w S W v l) : ∃ g W', (convert 36 36 v).run Try.prog W = .ok v W' ∧ Litr w S W' v l ∧ Keep (· = g) W W' ∧ ¬ S g ∧ w.heap.size ≤ g ∧ (∃ C fr, W.heap[g]? = some (.cells C 5 fr)) ∧
    SameCells W W' := by
  obtain ⟨g, fr, rfl, h2, h3, h4⟩ := h.at'
  have ht := Try.underlying36
  have he := Try.underlying5
  have hsh : W.shape? g = some (5, (bytesV l).toArray.size) := by
    unfold World.shape?
    rw [h2]
  refine ⟨g, W.freeze ⟨g, (bytesV l).toArray.size, none⟩ 1, ?_, ?_, freeze_keep W g _, h3, h4, ⟨_, _, h2⟩, ?_⟩
  · simp [Go.convert, run_underlying ht, run_underlying he, markStringish, hsh]
  · obtain ⟨fr', e⟩ := freeze_at (n := (bytesV l).toArray.size) h2
    exact ⟨g, fr', rfl, e, h3, h4⟩
  · intro k C t fr0 hk
    by_cases e : k = g
    · subst e; exact freeze_at hk
    · exact ⟨fr0, ((freeze_keep W g _).heap hk e)⟩

/-- within the two puts -/
structure AliveJ (w : World) (p sb : Nat) (S : Nat → Prop) (b0 b1 b2 b3 b4 b5 b6 b7 b8 b9 : Bool) (q3 q4 q24 q25 q26 q27 q28 q29 q30 q31 : Value) (W : World) : Prop where
  o73 : b7 = true → b3 = true
  o32 : b3 = true → b2 = true
  o76 : b7 = true → b6 = true
  m24 : b0 = true → q24 = .pointer (some ⟨sb, 0, none⟩)
  m25 : b1 = true → b2 = false → Litr w S W q25 [97, 98, 99, 100]
  m26 : b2 = true → b3 = false → Litr w S W q26 [97, 98, 99, 100]
  m27 : b3 = true → q27 = .int .i64 31
  m28 : b4 = true → q28 = .pointer (some ⟨sb, 0, none⟩)
  m29 : b5 = true → b6 = false → Litr w S W q29 [97, 98, 99]
  m30 : b6 = true → b7 = false → Litr w S W q30 [97, 98, 99]
  m31 : b7 = true → q31 = .int .i64 0
  m3 : b8 = true → q3 = .int .i64 31
  m4 : b9 = true → q4 = .int .i64 0
  st : St W sb (.pointer none) S (if b3 then (if b7 then sB else sA) else OS.new 3)
  box : W.heap[p]? = some (.cells #[.pointer (some ⟨sb, 0, none⟩)] 26 (0, 0))
  ns : ¬ S p
  low : ∀ b, S b → w.heap.size ≤ b
  keep : Keep (fun _ => False) w W

section
variable {w : World} {p sb : Nat} {S : Nat → Prop} {b0 b1 b2 b3 b4 b5 b6 b7 b8 b9 : Bool} {q3 q4 q24 q25 q26 q27 q28 q29 q30 q31 : Value} {W : World}

theorem AliveJ.kept (j : AliveJ w p sb S b0 b1 b2 b3 b4 b5 b6 b7 b8 b9 q3 q4 q24 q25 q26 q27 q28 q29 q30 q31 W) (o : Obj) :
    AliveJ w p sb S b0 b1 b2 b3 b4 b5 b6 b7 b8 b9 q3 q4 q24 q25 q26 q27 q28 q29 q30 q31 (W.alloc o) := by
  have hk : Keep (fun _ => False) W (W.alloc o) := (Keep.refl _ W).alloc o
  exact { j with
    m25 := fun h h3 => (j.m25 h h3).keep hk (fun _ e => e.elim) (fun _ => .inl)
    m26 := fun h h3 => (j.m26 h h3).keep hk (fun _ e => e.elim) (fun _ => .inl)
    m29 := fun h h3 => (j.m29 h h3).keep hk (fun _ e => e.elim) (fun _ => .inl)
    m30 := fun h h3 => (j.m30 h h3).keep hk (fun _ e => e.elim) (fun _ => .inl)
    st := j.st.keep0 hk, box := hk.heap j.box id, keep := j.keep.trans hk }

theorem Litr.frozen {W' : World} {v : Value} {l : Bs} (h : Litr w S W v l) (hf : SameCells W W') : Litr w S W' v l := by
  obtain ⟨g, fr, e, h2, h3, h4⟩ := h.at'
  obtain ⟨fr', h5⟩ := hf _ _ _ _ h2
  exact ⟨g, fr', e, h5, h3, h4⟩

theorem AliveJ.frozen (j : AliveJ w p sb S b0 b1 b2 b3 b4 b5 b6 b7 b8 b9 q3 q4 q24 q25 q26 q27 q28 q29 q30 q31 W) {W' : World} {g : Nat} (hk : Keep (· = g) W W') (hS : ¬ S g) (hw : w.heap.size ≤ g) (hg : ∃ C fr, W.heap[g]? = some (.cells C 5 fr))
    (hf : SameCells W W') :
    AliveJ w p sb S b0 b1 b2 b3 b4 b5 b6 b7 b8 b9 q3 q4 q24 q25 q26 q27 q28 q29 q30 q31 W' := by
  exact { j with
    m25 := fun h h3 => (j.m25 h h3).frozen hf
    m26 := fun h h3 => (j.m26 h h3).frozen hf
    m29 := fun h h3 => (j.m29 h h3).frozen hf
    m30 := fun h h3 => (j.m30 h h3).frozen hf
    st := j.st.keep hk (fun b e => by rw [e]; exact hS)
    box := hk.heap j.box (fun e => by obtain ⟨C, fr, h⟩ := hg; rw [← e, j.box] at h; cases h)
    keep := j.keep.trans' hk (fun _ _ e => e) (fun i hi e => by omega) }

theorem AliveJ.put1 {S' : Nat → Prop} {W' : World} (j : AliveJ w p sb S b0 b1 true false b4 b5 b6 false b8 b9 q3 q4 q24 q25 q26 q27 q28 q29 q30 q31 W)
    (h : St W' sb (.pointer none) S' sA) (ht : Turn S S' W W') : AliveJ w p sb S' b0 b1 true true b4 b5 b6 false b8 b9 q3 q4 q24 q25 q26 (.int .i64 31) q28 q29 q30 q31 W' where
  o73 := fun _ => rfl
  o32 := fun _ => rfl
  o76 := j.o76
  m24 := j.m24
  m25 := fun _ h => by cases h
  m26 := fun _ h => by cases h
  m27 := fun _ => rfl
  m28 := j.m28
  m29 := fun h5 h7 => (j.m29 h5 h7).keep ht.keep (fun _ => .inr) ht.grow
  m30 := fun h5 h7 => (j.m30 h5 h7).keep ht.keep (fun _ => .inr) ht.grow
  m31 := j.m31
  m3 := j.m3
  m4 := j.m4
  st := h
  box := ht.keep.heap j.box j.ns
  ns := ht.not j.ns (lt_blk j.box)
  low := fun b e => (ht.grow b e).elim (j.low b) (fun e => Nat.le_trans j.keep.size e)
  keep := j.keep.trans' ht.keep (fun _ _ e => e) (fun i hi e => by have := j.low i e; omega)

theorem AliveJ.put2 {S' : Nat → Prop} {W' : World} (j : AliveJ w p sb S b0 b1 true true b4 b5 true false b8 b9 q3 q4 q24 q25 q26 q27 q28 q29 q30 q31 W)
    (h : St W' sb (.pointer none) S' sB) (ht : Turn S S' W W') : AliveJ w p sb S' b0 b1 true true b4 b5 true true b8 b9 q3 q4 q24 q25 q26 q27 q28 q29 q30 (.int .i64 0) W' where
  o73 := fun _ => rfl
  o32 := fun _ => rfl
  o76 := fun _ => rfl
  m24 := j.m24
  m25 := fun _ h => by cases h
  m26 := fun _ h => by cases h
  m27 := j.m27
  m28 := j.m28
  m29 := fun _ h => by cases h
  m30 := fun _ h => by cases h
  m31 := fun _ => rfl
  m3 := j.m3
  m4 := j.m4
  st := h
  box := ht.keep.heap j.box j.ns
  ns := ht.not j.ns (lt_blk j.box)
  low := fun b e => (ht.grow b e).elim (j.low b) (fun e => Nat.le_trans j.keep.size e)
  keep := j.keep.trans' ht.keep (fun _ _ e => e) (fun i hi e => by have := j.low i e; omega)
end

/-- between two statements of the example -/
structure AliveK (w : World) (p sb : Nat) (f : Value) (S : Nat → Prop) (s : OS) (W : World) : Prop where
  st : St W sb f S s
  box : W.heap[p]? = some (.cells #[.pointer (some ⟨sb, 0, none⟩)] 26 (0, 0))
  ns : ¬ S p
  low : ∀ b, S b → w.heap.size ≤ b
  keep : Keep (fun _ => False) w W

theorem AliveK.turn {w : World} {p sb : Nat} {f f' : Value} {S S' : Nat → Prop} {s s' : OS} {W W' : World} (j : AliveK w p sb f S s W) (h : St W' sb f' S' s') (ht : Turn S S' W W') : AliveK w p sb f' S' s' W' where
  st := h
  box := ht.keep.heap j.box j.ns
  ns := ht.not j.ns (lt_blk j.box)
  low := fun b e => (ht.grow b e).elim (j.low b) (fun e => Nat.le_trans j.keep.size e)
  keep := j.keep.trans' ht.keep (fun _ _ e => e) (fun i hi e => by have := j.low i e; omega)
theorem AliveK.cell {w : World} {p sb : Nat} {f : Value} {S : Nat → Prop} {s : OS} {W : World} (j : AliveK w p sb f S s W) : W.cell? ⟨p, 0, none⟩ = some (.pointer (some ⟨sb, 0, none⟩)) := by
  rw [cell_blk j.box]; rfl

/-- bytes of which the store has none -/
structure Prot (S : Nat → Prop) (W : World) (v : Value) (l : Bs) : Prop where
  at' : BytesAt W v l
  no : ∀ x, vblk v = some x → ¬ S x
  pos : 0 < l.length
theorem Prot.turn {S S' : Nat → Prop} {W W' : World} {v : Value} {l : Bs} (h : Prot S W v l) (ht : Turn S S' W W') : Prot S' W' v l :=
  ⟨Sl.keep h.at' ht.keep (fun x _ e => h.no x e), fun x e => ht.not (h.no x e) (Sl.lt h.at' (by decide) h.pos e), h.pos⟩

theorem AliveK.arm {w : World} {p sb fb : Nat} {f0 : Value} {S : Nat → Prop} {s s' : OS} {W W' : World} {n : Int} {e : Ending} (j : AliveK w p sb f0 S s W) (hA : ArmSt sb (.pointer (some ⟨fb, 0, none⟩)) S s' W e W') (hf : FuseAt W fb n) (lo : w.heap.size ≤ fb) :
    ∃ S', e = .returned (.tuple #[]) ∧ AliveK w p sb (.pointer (some ⟨fb, 0, none⟩)) S' s' W' ∧ Keep (· = sb) W W' ∧ ∀ x, x < W.heap.size → ¬ S x → x ≠ fb → ¬ S' x := by
  obtain ⟨S', e1, h1, hk, hg⟩ := hA
  have hps : p ≠ sb := fun e => j.ns (by rw [e]; exact j.st.self)
  have hpf : p ≠ fb := fun e => by
    have := hf.1
    rw [← e, j.box] at this
    simp at this
  have hno : ∀ x, x < W.heap.size → ¬ S x → x ≠ fb → ¬ S' x := fun x hx hS hxf h => by
    rcases hg x h with h | h | h
    · exact hS h
    · simp [vblk] at h; omega
    · omega
  refine ⟨S', e1, ⟨h1, hk.heap j.box hps, hno _ (lt_blk j.box) j.ns hpf, fun b hb => ?_, j.keep.trans' hk (fun _ _ e => e) (fun i hi e => by have := j.low sb j.st.self; omega)⟩, hk, hno⟩
  rcases hg b hb with h | h | h
  · exact j.low b h
  · simp [vblk] at h; omega
  · exact Nat.le_trans j.keep.size h
theorem Prot.arm {w : World} {p sb fb : Nat} {f0 : Value} {S S' : Nat → Prop} {s : OS} {W W' : World} {v : Value} {l : Bs} (h : Prot S W v l) (j : AliveK w p sb f0 S s W) (hk : Keep (· = sb) W W') (hno : ∀ x, x < W.heap.size → ¬ S x → x ≠ fb → ¬ S' x) (hfb : ∀ x, vblk v = some x → x ≠ fb) : Prot S' W' v l :=
  ⟨Sl.keep h.at' hk (fun x _ e e2 => h.no x e (by rw [e2]; exact j.st.self)), fun x e => hno x (Sl.lt h.at' (by decide) h.pos e) (h.no x e) (hfb x e), h.pos⟩

/-- within the first Arm -/
structure AliveR (w W4 : World) (p sb : Nat) (c : Value) (f : Value) (S : Nat → Prop) (b0 b1 b2 b3 : Bool) (q53 q54 q55 : Value) (W : World) : Prop where
  m53 : b0 = true → q53 = .pointer (some ⟨sb, 0, none⟩)
  m54 : b1 = true → ∃ fb, q54 = .pointer (some ⟨fb, 0, none⟩) ∧ (b3 = false → FuseAt W fb 1) ∧ W4.heap.size ≤ fb
  m55 : b2 = true → b3 = false → Sl W 1 q55 1 [.bool true]
  k : AliveK w p sb f S (if b3 then sC.arm 1 [true] else sC) W
  pr : Prot S W c [97, 98, 99]
  size : W4.heap.size ≤ W.heap.size
  old : ∀ x, vblk c = some x → x < W4.heap.size
  base : w.heap.size ≤ W4.heap.size
  fz : b3 = true → ∃ fb, f = .pointer (some ⟨fb, 0, none⟩)

theorem AliveR.kept {w W4 : World} {p sb : Nat} {c f : Value} {S : Nat → Prop} {b0 b1 b2 b3 : Bool} {q53 q54 q55 : Value} {W W' : World} (j : AliveR w W4 p sb c f S b0 b1 b2 b3 q53 q54 q55 W) (hk : Keep (fun _ => False) W W') :
    AliveR w W4 p sb c f S b0 b1 b2 b3 q53 q54 q55 W' := by
  refine { j with m54 := fun h => ?_, m55 := fun h h3 => Sl.keep (j.m55 h h3) hk (fun _ _ _ e => e), k := j.k.turn (j.k.st.keep0 hk) ⟨hk.mono (fun _ _ e => e.elim), fun _ => .inl⟩, pr := j.pr.turn ⟨hk.mono (fun _ _ e => e.elim), fun _ => .inl⟩, size := Nat.le_trans j.size hk.size }
  obtain ⟨fb, e1, e2, e3⟩ := j.m54 h
  exact ⟨fb, e1, fun h => (e2 h).keep hk id, e3⟩

set_option maxRecDepth 100000 in
set_option maxHeartbeats 8000000 in
theorem alive_any (w : World) : Calls Try.prog 16 #[] w fun e w' => e = .returned (.bool true) ∧ Keep (fun _ => False) w w' := by
  go_enter Try.func16, Try.ntmps16
  go_wp2_with fail
  refine (new_any 3 _ (by decide) (by decide)).mono ?_
  rintro e w1 ⟨sb, rfl, h1, k1⟩
  go_wp2_with fail
  refine region_inv (fun listed a W' => ∃ (b0 b1 b2 b3 b4 b5 b6 b7 b8 b9 : Bool) (q3 q4 q24 q25 q26 q27 q28 q29 q30 q31 : Value) (S : Nat → Prop), listed = #[b0, b1, b2, b3, b4, b5, b6, b7, b8, b9] ∧
      a = { tmps := #[.bool false, .pointer (some ⟨w1.heap.size, 0, none⟩), .int .i64 0, q3, q4, undef, undef, undef, undef, undef, undef, undef, undef, undef, undef, undef, undef, undef, .tuple #[.pointer (some ⟨sb, 0, none⟩), .int .i64 0], .tuple #[.pointer (some ⟨sb, 0, none⟩), .int .i64 0], .pointer (some ⟨sb, 0, none⟩), .int .i64 0, .pointer (some ⟨sb, 0, none⟩), .bool false, q24, q25, q26, q27, q28, q29, q30, q31, undef, undef, undef, undef, undef, undef, undef, undef, undef, undef, undef, undef, undef, undef, undef, undef, undef, undef, undef, undef, undef, undef, undef, undef, undef, undef, undef, undef, undef, undef, undef, undef, undef, undef, undef, undef, undef, undef, undef, undef, undef, undef, undef, undef, undef, undef, undef, undef, undef, undef, undef, undef, undef, undef, undef, undef, undef, undef, undef, undef, undef, undef, undef, undef, undef, undef, undef, undef, undef, undef, undef, undef, undef, undef, undef, undef, undef, undef, undef, undef, undef, undef, undef, undef, undef, undef, undef, undef, undef, undef, undef, undef, undef, undef, undef, undef, undef, undef, undef, undef, undef, undef, undef, undef, undef, undef, undef, undef, undef], defers := [] } ∧
      AliveJ w w1.heap.size sb S b0 b1 b2 b3 b4 b5 b6 b7 b8 b9 q3 q4 q24 q25 q26 q27 q28 q29 q30 q31 W') (by kernel_rfl) ?h0 ?hs ?hd
  case h0 =>
    refine ⟨false, false, false, false, false, false, false, false, false, false, undef, undef, undef, undef, undef, undef, undef, undef, undef, undef, fun b => w.heap.size ≤ b ∧ b < w1.heap.size, rfl, rfl, ?_⟩
    have hk : Keep (fun _ => False) w1 (w1.alloc (.cells #[.pointer (some ⟨sb, 0, none⟩)] 26)).drew := ((Keep.refl _ w1).alloc _).drew
    refine ⟨(fun e => by cases e), (fun e => by cases e), (fun e => by cases e), (fun e => by cases e), (fun e => by cases e), (fun e => by cases e), (fun e => by cases e), (fun e => by cases e), (fun e => by cases e), (fun e => by cases e), (fun e => by cases e), (fun e => by cases e), (fun e => by cases e), h1.keep0 hk, alloc_new _ _, fun e => by omega, fun b e => e.1, k1.trans hk⟩
  case hs =>
    rintro _ _ W1 ⟨b0, b1, b2, b3, b4, b5, b6, b7, b8, b9, q3, q4, q24, q25, q26, q27, q28, q29, q30, q31, S, rfl, rfl, j⟩ i hi
    obtain ⟨hun, o, ho, hall⟩ := mem_ready.1 hi
    clear hi
    have hlt : i < 10 := (Array.getElem?_eq_some_iff.1 ho).1
    match i, hlt with
    | 0, _ =>
      simp at ho hun
      subst ho; subst hun
      have c6 := cell_blk j.box 0
      simp at c6
      refine opStep_step rfl (fun K hK => ?_)
      have HK := Lib.hid hK; clear hK
      go_simp
      exact HK.out _ _ ⟨true, _, _, _, _, _, _, _, _, _, _, _, _, _, _, _, _, _, _, _, S, rfl, rfl, { j with m24 := fun _ => rfl }⟩
    | 1, _ =>
      simp at ho hun
      subst ho; subst hun
      refine opStep_step rfl (fun K hK => ?_)
      have HK := Lib.hid hK; clear hK
      go_simp
      exact HK.out _ _ ⟨_, true, _, _, _, _, _, _, _, _, _, _, _, _, _, _, _, _, _, _, S, rfl, rfl, { j.kept _ with m25 := fun _ _ => Litr.made _ [97, 98, 99, 100] rfl rfl j.st.lt j.keep.size }⟩
    | 2, _ =>
      simp at ho hun
      subst ho; subst hun
      have e1 := hall ⟨1, .data⟩ (by simp) rfl
      simp at e1
      subst e1
      refine opStep_step rfl (fun K hK => ?_)
      have HK := Lib.hid hK; clear hK
      obtain ⟨g, W2, hrun, hL, hk, hS, hw, hg, hf⟩ := (j.m25 rfl rfl).convert
      go_simp
      exact HK.out _ _ ⟨_, _, true, _, _, _, _, _, _, _, _, _, _, _, _, _, _, _, _, _, S, rfl, rfl, { j.frozen hk hS hw hg hf with o32 := fun _ => rfl, m25 := fun _ h => (by cases h), m26 := fun _ h => hL }⟩
    | 3, _ =>
      simp at ho hun
      subst ho; subst hun
      have e0 := hall ⟨0, .data⟩ (by simp) rfl
      have e2 := hall ⟨2, .data⟩ (by simp) rfl
      simp at e0 e2
      subst e0; subst e2
      refine opStep_step rfl (fun K hK => ?_)
      have HK := Lib.hid hK; clear hK
      go_simp
      have q24e := j.m24 rfl
      subst q24e
      have h7 : b7 = false := by cases b7; rfl; exact absurd (j.o73 rfl) (by simp)
      subst h7
      have hst : St W1 sb (.pointer none) S (OS.new 3) := by simpa using j.st
      refine (hst.put (by decide) (by decide) ⟨#[120]⟩ (by decide) q26 [97, 98, 99, 100] ((j.m26 rfl rfl).bytes (by decide)) (by decide)).mono ?_
      rintro e W2 ⟨S', rfl, hS', hT⟩
      have hc : (OS.new 3).putCode (⟨#[120]⟩ : ByteArray).data.toList [97, 98, 99, 100] = 31 := cA
      rw [hc]
      exact HK.out _ _ ⟨_, _, _, true, _, _, _, _, _, _, _, _, _, _, _, _, _, _, _, _, S', rfl, rfl, j.put1 hS' hT⟩
    | 4, _ =>
      simp at ho hun
      subst ho; subst hun
      have c6 := cell_blk j.box 0
      simp at c6
      refine opStep_step rfl (fun K hK => ?_)
      have HK := Lib.hid hK; clear hK
      go_simp
      exact HK.out _ _ ⟨_, _, _, _, true, _, _, _, _, _, _, _, _, _, _, _, _, _, _, _, S, rfl, rfl, { j with m28 := fun _ => rfl }⟩
    | 5, _ =>
      simp at ho hun
      subst ho; subst hun
      refine opStep_step rfl (fun K hK => ?_)
      have HK := Lib.hid hK; clear hK
      go_simp
      exact HK.out _ _ ⟨_, _, _, _, _, true, _, _, _, _, _, _, _, _, _, _, _, _, _, _, S, rfl, rfl, { j.kept _ with m29 := fun _ _ => Litr.made _ [97, 98, 99] rfl rfl j.st.lt j.keep.size }⟩
    | 6, _ =>
      simp at ho hun
      subst ho; subst hun
      have e1 := hall ⟨5, .data⟩ (by simp) rfl
      simp at e1
      subst e1
      refine opStep_step rfl (fun K hK => ?_)
      have HK := Lib.hid hK; clear hK
      obtain ⟨g, W2, hrun, hL, hk, hS, hw, hg, hf⟩ := (j.m29 rfl rfl).convert
      go_simp
      exact HK.out _ _ ⟨_, _, _, _, _, _, true, _, _, _, _, _, _, _, _, _, _, _, _, _, S, rfl, rfl, { j.frozen hk hS hw hg hf with o76 := fun _ => rfl, m29 := fun _ h => (by cases h), m30 := fun _ h => hL }⟩
    | 7, _ =>
      simp at ho hun
      subst ho; subst hun
      have e0 := hall ⟨4, .data⟩ (by simp) rfl
      have e2 := hall ⟨6, .data⟩ (by simp) rfl
      have e3 := hall ⟨3, .chain⟩ (by simp) rfl
      simp at e0 e2 e3
      subst e0; subst e2; subst e3
      have e4 := j.o32 rfl
      subst e4
      refine opStep_step rfl (fun K hK => ?_)
      have HK := Lib.hid hK; clear hK
      go_simp
      have q28e := j.m28 rfl
      subst q28e
      have hst : St W1 sb (.pointer none) S sA := by simpa using j.st
      refine (hst.put (by decide) (by decide) ⟨#[120]⟩ (by decide) q30 [97, 98, 99] ((j.m30 rfl rfl).bytes (by decide)) (by decide)).mono ?_
      rintro e W2 ⟨S', rfl, hS', hT⟩
      have hc : sA.putCode (⟨#[120]⟩ : ByteArray).data.toList [97, 98, 99] = 0 := cB
      rw [hc]
      exact HK.out _ _ ⟨_, _, _, _, _, _, _, true, _, _, _, _, _, _, _, _, _, _, _, _, S', rfl, rfl, j.put2 hS' hT⟩
    | 8, _ =>
      simp at ho hun
      subst ho; subst hun
      have e3 := hall ⟨3, .data⟩ (by simp) rfl
      simp at e3
      subst e3
      have q27e := j.m27 rfl
      subst q27e
      refine opStep_step rfl (fun K hK => ?_)
      have HK := Lib.hid hK; clear hK
      go_simp
      exact HK.out _ _ ⟨_, _, _, _, _, _, _, _, true, _, _, _, _, _, _, _, _, _, _, _, S, rfl, rfl, { j with m3 := fun _ => rfl }⟩
    | 9, _ =>
      simp at ho hun
      subst ho; subst hun
      have e3 := hall ⟨7, .data⟩ (by simp) rfl
      simp at e3
      subst e3
      have q31e := j.m31 rfl
      subst q31e
      refine opStep_step rfl (fun K hK => ?_)
      have HK := Lib.hid hK; clear hK
      go_simp
      exact HK.out _ _ ⟨_, _, _, _, _, _, _, _, _, true, _, _, _, _, _, _, _, _, _, _, S, rfl, rfl, { j with m4 := fun _ => rfl }⟩
  case hd =>
    rintro _ _ W1 ⟨b0, b1, b2, b3, b4, b5, b6, b7, b8, b9, q3, q4, q24, q25, q26, q27, q28, q29, q30, q31, S, rfl, rfl, j⟩ hr
    have hn : ∀ i, i ∈ Region.ready .any _ _ → False := fun i hi => by rw [hr] at hi; cases hi
    have t0 : b0 = true := by cases b0; exact (hn 0 (mem_ready.2 ⟨rfl, _, rfl, by simp⟩)).elim; rfl
    subst t0
    have t0 : b1 = true := by cases b1; exact (hn 1 (mem_ready.2 ⟨rfl, _, rfl, by simp⟩)).elim; rfl
    subst t0
    have t0 : b2 = true := by cases b2; exact (hn 2 (mem_ready.2 ⟨rfl, _, rfl, by simp⟩)).elim; rfl
    subst t0
    have t0 : b3 = true := by cases b3; exact (hn 3 (mem_ready.2 ⟨rfl, _, rfl, by simp⟩)).elim; rfl
    subst t0
    have t0 : b4 = true := by cases b4; exact (hn 4 (mem_ready.2 ⟨rfl, _, rfl, by simp⟩)).elim; rfl
    subst t0
    have t0 : b5 = true := by cases b5; exact (hn 5 (mem_ready.2 ⟨rfl, _, rfl, by simp⟩)).elim; rfl
    subst t0
    have t0 : b6 = true := by cases b6; exact (hn 6 (mem_ready.2 ⟨rfl, _, rfl, by simp⟩)).elim; rfl
    subst t0
    have t0 : b7 = true := by cases b7; exact (hn 7 (mem_ready.2 ⟨rfl, _, rfl, by simp⟩)).elim; rfl
    subst t0
    have t0 : b8 = true := by cases b8; exact (hn 8 (mem_ready.2 ⟨rfl, _, rfl, by simp⟩)).elim; rfl
    subst t0
    have t0 : b9 = true := by cases b9; exact (hn 9 (mem_ready.2 ⟨rfl, _, rfl, by simp⟩)).elim; rfl
    subst t0
    clear hn hr
    have m3 := j.m3 rfl
    have m4 := j.m4 rfl
    subst m3; subst m4
    have h2 : St W1 sb (.pointer none) S sB := by simpa using j.st
    have A1 : AliveK w w1.heap.size sb (.pointer none) S sB W1 := ⟨h2, j.box, j.ns, j.low, j.keep⟩
    clear j h1 k1 h2
    have cb := A1.cell
    go_wp2_with fail
    refine (A1.st.get (by decide) (by decide) ⟨#[120]⟩ (by decide)).mono ?_
    rintro e W2 ⟨c, rfl, h3, t3, hco⟩
    obtain ⟨hc, hcn⟩ := Sl.of_owns hco
    clear hco
    have e1 : sB.getCode (⟨#[120]⟩ : ByteArray).data.toList = 0 := cC
    have e2 : sB.getBytes (⟨#[120]⟩ : ByteArray).data.toList = [97, 98, 99] := cC'
    rw [e1]
    change BytesAt W2 c _ at hc
    rw [e2] at hc
    have A2 := A1.turn h3 t3
    have P2 : Prot S W2 c [97, 98, 99] := ⟨hc, fun x e e2 => by have := hcn x e; have := A1.st.lt x e2; omega, by decide⟩
    clear e1 e2 hc hcn A1 h3 t3 cb
    have cb := A2.cell
    go_wp2_with fail
    refine (A2.st.get (by decide) (by decide) ⟨#[121]⟩ (by decide)).mono ?_
    rintro e W3 ⟨c', rfl, h3, t3, -⟩
    have e1 : sB.op.getCode (⟨#[121]⟩ : ByteArray).data.toList = 4 := cD
    rw [e1]
    have A3 := A2.turn h3 t3
    have P3 := P2.turn t3
    clear e1 A2 P2 h3 t3 cb
    have cb := A3.cell
    go_wp2_with fail
    refine (A3.st.list (by decide) (by decide) ⟨#[]⟩).mono ?_
    rintro e W4 ⟨ls, rfl, h3, t3, hls, -⟩
    have e1 : sB.op.op.code = 0 := cE
    have e2 : sB.op.op.listed (⟨#[]⟩ : ByteArray).data.toList = [[120]] := cE'
    rw [e2] at hls
    rw [e1]
    obtain ⟨lsa, lsc, rfl⟩ : ∃ a c, ls = .slice a 1 c := let ⟨_, a, c, e, _⟩ := hls; ⟨a, c, e⟩
    have A4 : AliveK w w1.heap.size sb (.pointer none) S sC W4 := A3.turn h3 t3
    have P4 := P3.turn t3
    clear e1 e2 A3 P3 h3 t3 hls cb
    have cb := A4.cell
    go_wp2_with fail
    refine region_inv' (fun a0 listed a W' => ∃ (b0 b1 b2 b3 : Bool) (q53 q54 q55 q56 f : Value) (S : Nat → Prop), listed = #[b0, b1, b2, b3] ∧
        a = { a0 with tmps := (((a0.tmps.setIfInBounds 53 q53).setIfInBounds 54 q54).setIfInBounds 55 q55).setIfInBounds 56 q56 } ∧
        AliveR w W4 w1.heap.size sb c f S b0 b1 b2 b3 q53 q54 q55 W') (by kernel_rfl) ?h0 ?hs ?hd
    case h0 =>
      have hk : Keep (fun _ => False) W4 W4.drew := (Keep.refl _ _).drew
      refine ⟨false, false, false, false, undef, undef, undef, undef, .pointer none, S, rfl, rfl, ?_⟩
      refine AliveR.kept (W := W4) ⟨(fun e => by cases e), (fun e => by cases e), (fun e => by cases e), A4, P4, Nat.le_refl _, fun x e => Sl.lt P4.at' (by decide) (by decide) e, A4.keep.size, (fun e => by cases e)⟩ hk
    case hs =>
      rintro _ _ W5 ⟨b0, b1, b2, b3, q53, q54, q55, q56, f, S, rfl, rfl, j⟩ i hi
      obtain ⟨hun, o, ho, hall⟩ := mem_ready.1 hi
      clear hi
      have hlt : i < 4 := (Array.getElem?_eq_some_iff.1 ho).1
      simp only [List.setIfInBounds_toArray, List.set_cons_zero, List.set_cons_succ]
      match i, hlt with
      | 0, _ =>
        simp at ho hun
        subst ho; subst hun
        have c6 := j.k.cell
        refine opStep_step rfl (fun K hK => ?_)
        have HK := Lib.hid hK; clear hK
        go_simp
        exact HK.out _ _ ⟨true, _, _, _, _, _, _, _, f, S, rfl, rfl, { j with m53 := fun _ => rfl }⟩
      | 1, _ =>
        simp at ho hun
        subst ho; subst hun
        refine opStep_step rfl (fun K hK => ?_)
        have HK := Lib.hid hK; clear hK
        go_simp
        refine (newFuse_any 1 _ (by decide) (by decide)).mono ?_
        rintro e W6 ⟨rfl, hF, hk⟩
        exact HK.out _ _ ⟨_, true, _, _, _, _, _, _, f, S, rfl, rfl, { j.kept hk with m54 := fun _ => ⟨_, rfl, fun _ => hF, j.size⟩ }⟩
      | 2, _ =>
        simp at ho hun
        subst ho; subst hun
        refine opStep_step rfl (fun K hK => ?_)
        have HK := Lib.hid hK; clear hK
        go_simp
        refine HK.out _ _ ⟨_, _, true, _, _, _, _, _, f, S, rfl, rfl, { j.kept ((Keep.refl _ _).alloc _) with m55 := fun _ _ => ?_ }⟩
        refine ⟨rfl, _, _, rfl, Nat.le_refl _, by decide, (fun e => by cases e), fun _ => ⟨_, 0, rfl, fun k hk => ?_⟩⟩
        rw [cell_blk (alloc_new _ _)]
        match k, hk with
        | 0, _ => rfl
      | 3, _ =>
        simp at ho hun
        subst ho; subst hun
        have e0 := hall ⟨0, .data⟩ (by simp) rfl
        have e1 := hall ⟨1, .data⟩ (by simp) rfl
        have e2 := hall ⟨2, .data⟩ (by simp) rfl
        simp at e0 e1 e2
        subst e0; subst e1; subst e2
        have m53 := j.m53 rfl
        subst m53
        obtain ⟨fb, rfl, hF, hfb⟩ := j.m54 rfl
        have hF := hF rfl
        refine opStep_step rfl (fun K hK => ?_)
        have HK := Lib.hid hK; clear hK
        go_simp
        have hst : AliveK w w1.heap.size sb f S sC W5 := by simpa using j.k
        refine (arm_any hst.st _ 1 (.inr ⟨fb, rfl, hF⟩) q55 [true] (j.m55 rfl rfl) (by decide)).mono ?_
        rintro e W6 hA
        obtain ⟨S', rfl, hk, hk6, hno⟩ := hst.arm hA hF (Nat.le_trans j.base hfb)
        exact HK.out _ _ ⟨_, _, _, true, _, _, _, _, _, S', rfl, rfl, (fun _ => rfl), (fun _ => ⟨fb, rfl, (fun h => by cases h), hfb⟩), (fun _ h => by cases h), hk, j.pr.arm j.k hk6 hno (fun x e => by have := j.old x e; omega), Nat.le_trans j.size hk6.size, j.old, j.base, fun _ => ⟨_, rfl⟩⟩
    case hd =>
      rintro _ _ W5 ⟨b0, b1, b2, b3, q53, q54, q55, q56, f, S, rfl, rfl, j⟩ hr
      have hn : ∀ i, i ∈ Region.ready .any _ _ → False := fun i hi => by rw [hr] at hi; cases hi
      have t0 : b0 = true := by cases b0; exact (hn 0 (mem_ready.2 ⟨rfl, _, rfl, by simp⟩)).elim; rfl
      subst t0
      have t0 : b1 = true := by cases b1; exact (hn 1 (mem_ready.2 ⟨rfl, _, rfl, by simp⟩)).elim; rfl
      subst t0
      have t0 : b2 = true := by cases b2; exact (hn 2 (mem_ready.2 ⟨rfl, _, rfl, by simp⟩)).elim; rfl
      subst t0
      have t0 : b3 = true := by cases b3; exact (hn 3 (mem_ready.2 ⟨rfl, _, rfl, by simp⟩)).elim; rfl
      subst t0
      clear hn hr
      have A5 : AliveK w w1.heap.size sb f S (sC.arm 1 [true]) W5 := by simpa using j.k
      have P5 := j.pr
      clear j A4 P4 cb
      simp only [List.setIfInBounds_toArray, List.set_cons_zero, List.set_cons_succ]
      have cb := A5.cell
      go_wp2_with fail
      refine (A5.st.drop (by decide) (by decide) ⟨#[120]⟩ (by decide)).mono ?_
      rintro e W6 ⟨rfl, h6, t6⟩
      have e1 : (sC.arm 1 [true]).getCode (⟨#[120]⟩ : ByteArray).data.toList = 30 := cF
      rw [e1]
      have A6 : AliveK w w1.heap.size sb f S sD W6 := A5.turn h6 t6
      have P6 := P5.turn t6
      clear e1 A5 P5 h6 t6 cb
      go_wp2_with fail
      refine (newFuse_any 0 _ (by decide) (by decide)).mono ?_
      rintro e W7 ⟨rfl, hF, hk⟩
      have t7 : Turn S S W6 W7 := ⟨hk.mono (fun _ _ e => e.elim), fun _ => .inl⟩
      have A7 := A6.turn (A6.st.keep0 hk) t7
      have P7 := P6.turn t7
      have hc6 : ∀ x, vblk c = some x → x ≠ W6.heap.size := fun x e => by have := Sl.lt P6.at' (by decide) (by decide) e; omega
      have hlo := A6.keep.size
      clear A6 P6 t7 hk
      have hF0 : FuseAt W7 W6.heap.size 0 := hF
      clear hF
      have cb := A7.cell
      go_wp2_with fail
      refine (arm_any A7.st (.pointer (some ⟨W6.heap.size, 0, none⟩)) 0 (.inr ⟨_, rfl, hF0⟩) (.slice none 0 0) [] (Sl.nil _ _) (by decide)).mono ?_
      rintro e W8 hA
      obtain ⟨S8, rfl, A8, hk8, hno⟩ := A7.arm hA hF0 hlo
      have A8 : AliveK w w1.heap.size sb (.pointer (some ⟨W6.heap.size, 0, none⟩)) S8 sE W8 := A8
      have P8 := P7.arm A7 hk8 hno hc6
      clear A7 P7 hA hk8 hno hc6 hlo hF0 cb
      have hmf : ∀ (fn : Fn) (first cap : Array Value) (w : World), (Instr.makeFunc fn first cap).run Try.prog w = .ok (.func fn first cap) w := fun _ _ _ _ => rfl
      have hcw := catchW_keep W8 W6.heap.size
      have A9 : AliveK w w1.heap.size sb (.pointer (some ⟨W6.heap.size, 0, none⟩)) S8 sE (catchW W8 W6.heap.size) := A8.turn (A8.st.keep0 hcw) ⟨hcw.mono (fun _ _ e => e.elim), fun _ => .inl⟩
      have hR := (alive1_blow A9.st cK _ A9.cell).mono (R' := fun e w' => (e = .returned (.tuple #[]) ∧ False) ∨ (e = .panicked (blowChain W6.heap.size) ∧ Keep (fun _ => False) (catchW W8 W6.heap.size) w')) (fun e w' h => .inr h)
      have HC := catch_any W6.heap.size ⟨61, #[], #[.pointer (some ⟨w1.heap.size, 0, none⟩)]⟩ (enters_of Try.func61 (by kernel_rfl) rfl) W8 _ rfl (fun _ => False) (fun w' => Keep (fun _ => False) (catchW W8 W6.heap.size) w') (fun _ h => h.elim) (fun _ h => h.mono (fun _ _ e => e.elim)) hR
      have H9 := Lib.hid A8; have HP := Lib.hid P8
      clear hR A9 hcw A8 P8
      unfold Clo.val at HC
      dsimp only at HC
      go_wp2_with fail
      refine HC.mono ?_
      rintro e W9 ⟨W8', (⟨_, h⟩ | ⟨rfl, hk8⟩), hk9⟩
      · exact h.elim
      have hk89 : Keep (fun _ => False) W8 W9 := ((catchW_keep W8 W6.heap.size).trans hk8).trans' hk9 (fun _ _ e => e) (fun i hi e => by omega)
      have t9 : Turn S8 S8 W8 W9 := ⟨hk89.mono (fun _ _ e => e.elim), fun _ => .inl⟩
      have A9 := H9.out.turn (H9.out.st.keep0 hk89) t9
      have P9 := HP.out.turn t9
      clear H9 HP t9 hk89 hk8 hk9 HC hmf
      have cb := A9.cell
      go_wp2_with fail
      refine (names_any A9.st 9 (by decide) (by decide)).mono ?_
      rintro e W10 ⟨x, y, rfl, hx, hy, hxn, hyn, hk⟩
      have e1 : sE.some 9 = [([120], 3)] := cG
      rw [e1] at hx hy
      have t9 : Turn S8 S8 W9 W10 := ⟨hk.mono (fun _ _ e => e.elim), fun _ => .inl⟩
      have A10 := A9.turn (A9.st.keep0 hk) t9
      have P10 := P9.turn t9
      clear A9 P9 t9 hxn hyn hk cb e1
      obtain ⟨xa, xc, rfl⟩ : ∃ a c, x = .slice a 1 c := let ⟨_, a, c, e, _⟩ := hx; ⟨a, c, e⟩
      obtain ⟨yb, yo, yc, rfl, hyc⟩ : ∃ b o c, y = .slice (some ⟨b, o, none⟩) 1 c ∧ W10.cell? ⟨b, o, none⟩ = some (.int .i64 3) := by
        obtain ⟨_, a, c, e, _, _, _, h⟩ := hy
        obtain ⟨b, o, e2, h2⟩ := h (by decide)
        subst e2
        exact ⟨b, o, c, e, h2 0 (by decide)⟩
      clear hx hy
      have cb := A10.cell
      go_wp2_with fail
      refine (new_arg (-1) _ (by decide)).mono ?_
      rintro e W11 ⟨rfl, rfl⟩
      have hcs := conv_str P10.at'
      obtain ⟨ca, cc, rfl⟩ : ∃ a k, c = .slice a 3 k := let ⟨_, a, k, e, _⟩ := P10.at'; ⟨a, k, e⟩
      go_wp2_with fail
      refine (A10.st.ops).mono ?_
      rintro e W11 ⟨rfl, rfl⟩
      rw [cH]
      go_wp2_with fail
      refine (A10.st.len).mono ?_
      rintro e W11 ⟨rfl, rfl⟩
      rw [cI]
      go_wp2_with fail
      refine (A10.st.size).mono ?_
      rintro e W11 ⟨rfl, rfl⟩
      rw [cJ]
      go_wp2
      go_ret
      exact ⟨rfl, A10.keep⟩
end Go.Proofs.Ytgnigkghkldcfaa
