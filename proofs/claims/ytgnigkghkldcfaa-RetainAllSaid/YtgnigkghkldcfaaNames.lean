/-
  coldstorelaw06.names: up to so many names, and how many bytes their things have.
-/
import Derived.Test.YtgnigkghkldcfaaNew
import Derived.Test.YtgnigkghkldcfaaDraw
import Derived.Deep.RegionHeld3
namespace Go.Proofs.Ytgnigkghkldcfaa
open Go.RowKit Go.Proofs Go.Lib Go.Maps Go.Shelf
attribute [local go_sem] Oper.semAt_some

theorem info_int : (Try.prog.info? 3).map (fun i => (i.zero, i.size, i.bytes)) = some (some (.int .i64 0), 1, 8) := by kernel_rfl
def IntsAt (w : World) (v : Value) (l : List Int) : Prop := Sl w 1 v l.length (l.map (.int .i64))
def OS.some (s : OS) (most : Int) : List (Bs × Nat) := s.list.take most.toNat

def NamesPost (s : OS) (most : Int) (w : World) (e : Ending) (w' : World) : Prop :=
  ∃ x y, e = .returned (.tuple #[x, y]) ∧ StrsAt w' x ((s.some most).map (·.1)) ∧ IntsAt w' y ((s.some most).map (fun p => (p.2 : Int))) ∧
    (∀ b, vblk x = some b → w.heap.size ≤ b) ∧ (∀ b, vblk y = some b → w.heap.size ≤ b) ∧ Keep (fun _ => False) w w'

/-- what lies ahead of the loop -/
structure NamesLaid (w w3 : World) (sb : Nat) (most : Int) : Prop where
  b3 : w3.heap[w.heap.size]? = some (.cells #[.int .i64 most] 3 (0, 0))
  b4 : w3.heap[w.heap.size + 1]? = some (.cells #[.slice none 0 0] 44 (0, 0))
  b5 : w3.heap[w.heap.size + 2]? = some (.cells #[.slice none 0 0] 45 (0, 0))
  e6 : w3.heap[w.heap.size + 3]? = some (.cells #[] 9 (0, 0))
  e7 : w3.heap[w.heap.size + 4]? = some (.cells #[] 3 (0, 0))
  b6 : w3.heap[w.heap.size + 5]? = some (.cells #[.slice (some ⟨w.heap.size + 3, 0, none⟩) 0 0] 44 (0, 0))
  b7 : w3.heap[w.heap.size + 6]? = some (.cells #[.slice (some ⟨w.heap.size + 4, 0, none⟩) 0 0] 45 (0, 0))
  b8 : w3.heap[w.heap.size + 7]? = some (.cells #[.pointer (some ⟨sb, 0, none⟩)] 26 (0, 0))
  size : w3.heap.size = w.heap.size + 8
  keep : Keep (fun _ => False) w w3

theorem alloc_at {w : World} {n : Nat} (h : w.heap.size = n) (o : Obj) : (w.alloc o).heap[n]? = some o := by rw [← h]; exact alloc_new w o

theorem names_laid (w : World) (sb : Nat) (most : Int) : NamesLaid w ((((((((w.alloc (.cells #[.int .i64 most] 3)).alloc (.cells #[.slice none 0 0] 44)).alloc (.cells #[.slice none 0 0] 45)).alloc (.cells #[] 9)).alloc (.cells #[] 3)).alloc
    (.cells #[.slice (some ⟨w.heap.size + 1 + 1 + 1, 0, none⟩) 0 0] 44)).alloc (.cells #[.slice (some ⟨w.heap.size + 1 + 1 + 1 + 1, 0, none⟩) 0 0] 45)).alloc (.cells #[.pointer (some ⟨sb, 0, none⟩)] 26)) sb most := by
  refine ⟨?_, ?_, ?_, ?_, ?_, ?_, ?_, ?_, by simp, (((((((((Keep.refl _ w).alloc _).alloc _).alloc _).alloc _).alloc _).alloc _).alloc _).alloc _)⟩
  all_goals (repeat' first | exact alloc_at (by simp) _ | refine alloc_blk ?_ _)

abbrev strs (l : List (Bs × Nat)) : List Value := l.map fun p => strV p.1
abbrev nums (l : List (Bs × Nat)) : List Value := l.map fun p => .int .i64 p.2

/-- between two rounds -/
structure NamesI (B z : Nat) (w3 : World) (most : Int) (Pv : Nat → Prop) (pre : List (Bs × Nat)) (W : World) (x y : Value) : Prop where
  keep : Keep (fun k => k = B + 3 ∨ k = B + 4 ∨ k = B + 5 ∨ k = B + 6) w3 W
  bx : W.heap[B + 5]? = some (.cells #[x] 44 (0, 0))
  bz : W.heap[B + 6]? = some (.cells #[y] 45 (0, 0))
  rx : W.ownsRow 0 9 1 x pre.length (strs pre)
  rz : W.ownsRow 0 3 1 y pre.length (nums pre)
  lx : ∀ g, vblk x = some g → (g = B + 3 ∨ z + 2 ≤ g) ∧ ¬ Pv g
  lz : ∀ g, vblk y = some g → (g = B + 4 ∨ z + 2 ≤ g) ∧ ¬ Pv g
  dis : ∀ g, vblk x = some g → vblk y ≠ some g
  less : (pre.length : Int) < most

/-- where a round returns -/
structure NamesX (B z : Nat) (w3 : World) (most : Int) (pre : List (Bs × Nat)) (W : World) (x y : Value) : Prop where
  keep : Keep (fun k => B + 1 ≤ k ∧ k ≤ B + 6) w3 W
  bx : W.heap[B + 1]? = some (.cells #[x] 44 (0, 0))
  bz : W.heap[B + 2]? = some (.cells #[y] 45 (0, 0))
  rx : W.ownsRow 0 9 1 x pre.length (strs pre)
  rz : W.ownsRow 0 3 1 y pre.length (nums pre)
  lx : ∀ g, vblk x = some g → (g = B + 3 ∨ z + 2 ≤ g)
  lz : ∀ g, vblk y = some g → (g = B + 4 ∨ z + 2 ≤ g)
  all : (pre.length : Int) = most

/-- within the two appends -/
structure NamesJ (B : Nat) (W0 : World) (vx vy : Value) (n : Nat) (xs ys : List Value) (name : ByteArray) (num : Int) (b1 b2 b3 b5 b6 b7 b8 b9 : Bool) (q21 q22 q23 q25 q26 q27 : Value) (w : World) : Prop where
  o73 : b7 = true → b3 = true
  o87 : b8 = true → b7 = true
  o98 : b9 = true → b8 = true
  m21 : b1 = true → q21 = .string name
  m22 : b2 = true → b3 = false → ∃ g, q22 = .slice (some ⟨g, 0, none⟩) 1 1 ∧ w.cell? ⟨g, 0, none⟩ = some (.string name)
  m25 : b5 = true → q25 = .int .i64 num
  m26 : b6 = true → b7 = false → ∃ g, q26 = .slice (some ⟨g, 0, none⟩) 1 1 ∧ w.cell? ⟨g, 0, none⟩ = some (.int .i64 num) ∧ W0.heap.size ≤ g
  rx : w.ownsRow 0 9 1 (if b3 then q23 else vx) (if b3 then n + 1 else n) (if b3 then xs ++ [.string name] else xs)
  rz : w.ownsRow 0 3 1 (if b7 then q27 else vy) (if b7 then n + 1 else n) (if b7 then ys ++ [.int .i64 num] else ys)
  dis : ∀ g, vblk (if b3 then q23 else vx) = some g → vblk (if b7 then q27 else vy) ≠ some g
  lx : ∀ g, vblk (if b3 then q23 else vx) = some g → vblk vx = some g ∨ W0.heap.size ≤ g
  lz : ∀ g, vblk (if b7 then q27 else vy) = some g → vblk vy = some g ∨ W0.heap.size ≤ g
  bx : w.heap[B + 5]? = some (.cells #[if b8 then q23 else vx] 44 (0, 0))
  bz : w.heap[B + 6]? = some (.cells #[if b9 then q27 else vy] 45 (0, 0))
  keep : Keep (fun k => vblk vx = some k ∨ vblk vy = some k ∨ k = B + 5 ∨ k = B + 6) W0 w

section
variable {B : Nat} {W0 : World} {vx vy : Value} {n : Nat} {xs ys : List Value} {name : ByteArray} {num : Int} {b1 b2 b3 b5 b6 b7 b8 b9 : Bool} {q21 q22 q23 q25 q26 q27 : Value} {w : World}

theorem NamesJ.s1 (j : NamesJ B W0 vx vy n xs ys name num b1 b2 b3 b5 b6 b7 b8 b9 q21 q22 q23 q25 q26 q27 w) : NamesJ B W0 vx vy n xs ys name num true b2 b3 b5 b6 b7 b8 b9 (.string name) q22 q23 q25 q26 q27 w := { j with m21 := fun _ => rfl }
theorem NamesJ.s5 (j : NamesJ B W0 vx vy n xs ys name num b1 b2 b3 b5 b6 b7 b8 b9 q21 q22 q23 q25 q26 q27 w) : NamesJ B W0 vx vy n xs ys name num b1 b2 b3 true b6 b7 b8 b9 q21 q22 q23 (.int .i64 num) q26 q27 w := { j with m25 := fun _ => rfl }
theorem NamesJ.kept (j : NamesJ B W0 vx vy n xs ys name num b1 b2 b3 b5 b6 b7 b8 b9 q21 q22 q23 q25 q26 q27 w) (o : Obj) : NamesJ B W0 vx vy n xs ys name num b1 b2 b3 b5 b6 b7 b8 b9 q21 q22 q23 q25 q26 q27 (w.alloc o) := by
  have hk : Keep (fun _ => False) w (w.alloc o) := (Keep.refl _ w).alloc o
  refine { j with m22 := fun h h3 => ?_, m26 := fun h h7 => ?_, rx := own_keep j.rx hk (fun _ _ e => e), rz := own_keep j.rz hk (fun _ _ e => e), bx := hk.heap j.bx id, bz := hk.heap j.bz id, keep := j.keep.alloc o }
  · obtain ⟨g, e1, e2⟩ := j.m22 h h3
    exact ⟨g, e1, (World.cell?_of_block (hk.block g (World.block_lt_of_cell? (a := ⟨g, 0, none⟩) w e2) id)).trans e2⟩
  · obtain ⟨g, e1, e2, e3⟩ := j.m26 h h7
    exact ⟨g, e1, (World.cell?_of_block (hk.block g (World.block_lt_of_cell? (a := ⟨g, 0, none⟩) w e2) id)).trans e2, e3⟩
theorem NamesJ.s2 (j : NamesJ B W0 vx vy n xs ys name num b1 b2 b3 b5 b6 b7 b8 b9 q21 q22 q23 q25 q26 q27 w) : NamesJ B W0 vx vy n xs ys name num b1 true b3 b5 b6 b7 b8 b9 q21 (.slice (some ⟨w.heap.size, 0, none⟩) 1 1) q23 q25 q26 q27 (w.alloc (.cells #[.string name] 9)) :=
  { j.kept _ with m22 := fun _ _ => ⟨_, rfl, by rw [cell_blk (alloc_new _ _)]; rfl⟩ }
theorem NamesJ.s6 (j : NamesJ B W0 vx vy n xs ys name num b1 b2 b3 b5 b6 b7 b8 b9 q21 q22 q23 q25 q26 q27 w) : NamesJ B W0 vx vy n xs ys name num b1 b2 b3 b5 true b7 b8 b9 q21 q22 q23 q25 (.slice (some ⟨w.heap.size, 0, none⟩) 1 1) q27 (w.alloc (.cells #[.int .i64 num] 3)) :=
  { j.kept _ with m26 := fun _ _ => ⟨_, rfl, by rw [cell_blk (alloc_new _ _)]; rfl, j.keep.size⟩ }

theorem NamesJ.s3 (j : NamesJ B W0 vx vy n xs ys name num b1 b2 false b5 b6 false false false q21 q22 q23 q25 q26 q27 w) (h0 : ∀ g, vblk vx = some g → g < W0.heap.size) (h1 : ∀ g, vblk vx = some g → g ≠ B + 5 ∧ g ≠ B + 6) {g cap : Nat} {w' : World}
    (hr : w'.ownsRow 0 9 1 (.slice (some ⟨g, 0, none⟩) (n + 1) cap) (n + 1) (xs ++ [.string name])) (hk : Keep (fun i => vblk vx = some i) w w') (hg : vblk vx = some g ∨ g = w.heap.size) :
    NamesJ B W0 vx vy n xs ys name num b1 b2 true b5 b6 false false false q21 q22 (.slice (some ⟨g, 0, none⟩) (n + 1) cap) q25 q26 q27 w' := by
  have jx := j.rx; have jz := j.rz; have jd := j.dis
  simp only [Bool.false_eq_true, if_false] at jx jz jd
  refine ⟨fun e => rfl, j.o87, j.o98, j.m21, fun _ e => (by cases e), j.m25, fun h h7 => ?_, by simpa using hr, ?_, ?_, ?_, by simpa using fun g e => j.lz g (by simpa using e), ?_, ?_, ?_⟩
  · obtain ⟨g', e1, e2, e3⟩ := j.m26 h h7
    exact ⟨g', e1, (World.cell?_of_block (hk.block g' (World.block_lt_of_cell? (a := ⟨g', 0, none⟩) w e2) (fun e => by have := h0 _ e; omega))).trans e2, e3⟩
  · simp only [Bool.false_eq_true, if_false]
    exact own_keep jz hk (fun g' e e2 => jd g' e2 e)
  · simp only [if_true, Bool.false_eq_true, if_false, vblk, Option.some.injEq]
    rintro g' rfl e
    rcases hg with hg | hg
    · exact jd _ hg e
    · have := (own_lt jz _ e).2; omega
  · simp only [if_true, vblk, Option.some.injEq]
    rintro g' rfl
    rcases hg with hg | hg
    · exact .inl hg
    · have := j.keep.size; exact .inr (by omega)
  · exact hk.heap j.bx (fun e => (h1 _ e).1 rfl)
  · exact hk.heap j.bz (fun e => (h1 _ e).2 rfl)
  · exact j.keep.trans' hk (fun _ _ e => e) (fun _ _ e => .inl e)

theorem NamesJ.s7 (j : NamesJ B W0 vx vy n xs ys name num b1 b2 true b5 b6 false false false q21 q22 q23 q25 q26 q27 w) (h1 : ∀ g, vblk vy = some g → g ≠ B + 5 ∧ g ≠ B + 6) {g cap : Nat} {w' : World}
    (hr : w'.ownsRow 0 3 1 (.slice (some ⟨g, 0, none⟩) (n + 1) cap) (n + 1) (ys ++ [.int .i64 num])) (hk : Keep (fun i => vblk vy = some i) w w') (hg : vblk vy = some g ∨ g = w.heap.size) :
    NamesJ B W0 vx vy n xs ys name num b1 b2 true b5 b6 true false false q21 q22 q23 q25 q26 (.slice (some ⟨g, 0, none⟩) (n + 1) cap) w' := by
  have jx := j.rx; have jz := j.rz; have jd := j.dis
  simp only [Bool.false_eq_true, if_false, if_true] at jx jz jd
  refine ⟨fun e => rfl, fun _ => rfl, j.o98, j.m21, fun _ e => (by cases e), j.m25, fun _ e => (by cases e), ?_, by simpa using hr, ?_, by simpa using fun g e => j.lx g (by simpa using e), ?_, ?_, ?_, ?_⟩
  · simp only [if_true]
    exact own_keep jx hk (fun g' e e2 => jd g' e e2)
  · intro g' e e2
    simp only [if_true] at e e2
    simp only [vblk, Option.some.injEq] at e2
    subst e2
    rcases hg with hg | hg
    · exact jd _ e hg
    · have := (own_lt jx _ e).2; omega
  · simp only [if_true, vblk, Option.some.injEq]
    rintro g' rfl
    rcases hg with hg | hg
    · exact .inl hg
    · have := j.keep.size; exact .inr (by omega)
  · exact hk.heap j.bx (fun e => (h1 _ e).1 rfl)
  · exact hk.heap j.bz (fun e => (h1 _ e).2 rfl)
  · exact j.keep.trans' hk (fun _ _ e => e) (fun _ _ e => .inr (.inl e))

theorem NamesJ.apart (j : NamesJ B W0 vx vy n xs ys name num b1 b2 true b5 b6 true b8 b9 q21 q22 q23 q25 q26 q27 w) (hB : B + 6 < W0.heap.size) (hx : ∀ g, vblk vx = some g → g ≠ B + 5 ∧ g ≠ B + 6) (hy : ∀ g, vblk vy = some g → g ≠ B + 5 ∧ g ≠ B + 6) :
    (∀ g, vblk q23 = some g → g ≠ B + 5 ∧ g ≠ B + 6) ∧ (∀ g, vblk q27 = some g → g ≠ B + 5 ∧ g ≠ B + 6) := by
  have jx := j.lx; have jz := j.lz
  simp only [if_true] at jx jz
  refine ⟨fun g e => ?_, fun g e => ?_⟩
  · rcases jx g e with h | h
    · exact hx g h
    · omega
  · rcases jz g e with h | h
    · exact hy g h
    · omega

theorem NamesJ.s8 (j : NamesJ B W0 vx vy n xs ys name num b1 b2 true b5 b6 true false false q21 q22 q23 q25 q26 q27 w) (hB : B + 6 < W0.heap.size) (hx : ∀ g, vblk vx = some g → g ≠ B + 5 ∧ g ≠ B + 6) (hy : ∀ g, vblk vy = some g → g ≠ B + 5 ∧ g ≠ B + 6) :
    NamesJ B W0 vx vy n xs ys name num b1 b2 true b5 b6 true true false q21 q22 q23 q25 q26 q27 (w.setCell ⟨B + 5, 0, none⟩ q23) := by
  have hk : Keep (· = B + 5) w (w.setCell ⟨B + 5, 0, none⟩ q23) := (Keep.refl (fun k => k = B + 5) w).setCell (p := ⟨B + 5, 0, none⟩) (fun _ => rfl) _
  obtain ⟨a1, a2⟩ := j.apart hB hx hy
  refine ⟨j.o73, fun _ => rfl, fun e => (by cases e), j.m21, fun _ e => (by cases e), j.m25, fun _ e => (by cases e), own_keep j.rx hk (fun g e e2 => (a1 g (by simpa using e)).1 e2), own_keep j.rz hk (fun g e e2 => (a2 g (by simpa using e)).1 e2), j.dis, j.lx, j.lz, ?_, hk.heap j.bz (by omega), j.keep.trans' hk (fun _ _ e => e) (fun _ _ e => .inr (.inr (.inl e)))⟩
  rw [set_blk j.bx]; simp
theorem NamesJ.s9 (j : NamesJ B W0 vx vy n xs ys name num b1 b2 true b5 b6 true true false q21 q22 q23 q25 q26 q27 w) (hB : B + 6 < W0.heap.size) (hx : ∀ g, vblk vx = some g → g ≠ B + 5 ∧ g ≠ B + 6) (hy : ∀ g, vblk vy = some g → g ≠ B + 5 ∧ g ≠ B + 6) :
    NamesJ B W0 vx vy n xs ys name num b1 b2 true b5 b6 true true true q21 q22 q23 q25 q26 q27 (w.setCell ⟨B + 6, 0, none⟩ q27) := by
  have hk : Keep (· = B + 6) w (w.setCell ⟨B + 6, 0, none⟩ q27) := (Keep.refl (fun k => k = B + 6) w).setCell (p := ⟨B + 6, 0, none⟩) (fun _ => rfl) _
  obtain ⟨a1, a2⟩ := j.apart hB hx hy
  refine ⟨j.o73, fun _ => rfl, fun _ => rfl, j.m21, fun _ e => (by cases e), j.m25, fun _ e => (by cases e), own_keep j.rx hk (fun g e e2 => (a1 g (by simpa using e)).2 e2), own_keep j.rz hk (fun g e e2 => (a2 g (by simpa using e)).2 e2), j.dis, j.lx, j.lz, hk.heap j.bx (by omega), ?_, j.keep.trans' hk (fun _ _ e => e) (fun _ _ e => .inr (.inr (.inr e)))⟩
  rw [set_blk j.bz]; simp
end

theorem KeepB.mono {B C : Nat → Prop} {X Y : World} (h : KeepB B X Y) (hB : ∀ k, C k → B k) : KeepB C X Y := ⟨h.1, fun k hk => h.2 k (hB k hk)⟩

/-- what the appends leave -/
structure NamesL (B z : Nat) (w3 W W1 : World) (Pv : Nat → Prop) (pre : List (Bs × Nat)) (x y : Value) : Prop where
  keep : Keep (fun k => k = B + 3 ∨ k = B + 4 ∨ k = B + 5 ∨ k = B + 6) w3 W1
  step : KeepB (fun k => k = z + 1 ∨ k = z ∨ Pv k ∨ (k < w3.heap.size ∧ k ≠ B + 3 ∧ k ≠ B + 4 ∧ k ≠ B + 5 ∧ k ≠ B + 6)) W W1
  bx : W1.heap[B + 5]? = some (.cells #[x] 44 (0, 0))
  bz : W1.heap[B + 6]? = some (.cells #[y] 45 (0, 0))
  rx : W1.ownsRow 0 9 1 x pre.length (strs pre)
  rz : W1.ownsRow 0 3 1 y pre.length (nums pre)
  lx : ∀ g, vblk x = some g → (g = B + 3 ∨ z + 2 ≤ g) ∧ ¬ Pv g
  lz : ∀ g, vblk y = some g → (g = B + 4 ∨ z + 2 ≤ g) ∧ ¬ Pv g
  dis : ∀ g, vblk x = some g → vblk y ≠ some g

theorem names_step {B z : Nat} {w3 W W1 : World} {most : Int} {Pv : Nat → Prop} {pre : List (Bs × Nat)} {x : Bs × Nat} {vx vy : Value} (J : NamesI B z w3 most Pv pre W vx vy) {q21 q22 q23 q25 q26 q27 : Value}
    (j : NamesJ B W.drew vx vy pre.length (strs pre) (nums pre) ⟨x.1.toArray⟩ x.2 true true true true true true true true q21 q22 q23 q25 q26 q27 W1) (hz : z = B + 8) (hz3 : w3.heap.size = z) (hzW : z + 2 ≤ W.heap.size) (hP : ∀ k, Pv k → z + 2 ≤ k ∧ k < W.heap.size) :
    NamesL B z w3 W W1 Pv (pre ++ [x]) q23 q27 := by
  have jx := j.rx; have jz := j.rz; have jd := j.dis; have lx := j.lx; have lz := j.lz; have bx := j.bx; have bz := j.bz
  simp only [if_true] at jx jz jd lx lz bx bz
  have hk := j.keep
  have hkW : Keep (fun k => vblk vx = some k ∨ vblk vy = some k ∨ k = B + 5 ∨ k = B + 6) W W1 := ⟨hk.os, hk.tape, hk.output, hk.size, hk.block⟩
  refine ⟨?_, ?_, bx, bz, by simpa [strs] using jx, by simpa [nums] using jz, ?_, ?_, jd⟩
  · refine J.keep.trans' hkW (fun _ _ e => e) (fun i hi e => ?_)
    rcases e with e | e | e | e
    · have := (J.lx i e).1; omega
    · have := (J.lz i e).1; omega
    · exact .inr (.inr (.inl e))
    · exact .inr (.inr (.inr e))
  · refine KeepB.of_keep hkW (fun k hk => ?_)
    rcases hk with rfl | rfl | hk | hk
    · refine ⟨by omega, fun e => ?_⟩
      rcases e with e | e | e | e
      · have := (J.lx _ e).1; omega
      · have := (J.lz _ e).1; omega
      · omega
      · omega
    · refine ⟨by omega, fun e => ?_⟩
      rcases e with e | e | e | e
      · have := (J.lx _ e).1; omega
      · have := (J.lz _ e).1; omega
      · omega
      · omega
    · refine ⟨(hP k hk).2, fun e => ?_⟩
      have := hP k hk
      rcases e with e | e | e | e
      · exact (J.lx _ e).2 hk
      · exact (J.lz _ e).2 hk
      · omega
      · omega
    · refine ⟨by omega, fun e => ?_⟩
      rcases e with e | e | e | e
      · have := (J.lx _ e).1; omega
      · have := (J.lz _ e).1; omega
      · omega
      · omega
  · intro g e
    rcases lx g e with h | h
    · exact J.lx g h
    · have h : W.heap.size ≤ g := h
      exact ⟨.inr (by omega), fun hp => by have := hP g hp; omega⟩
  · intro g e
    rcases lz g e with h | h
    · exact J.lz g h
    · have h : W.heap.size ≤ g := h
      exact ⟨.inr (by omega), fun hp => by have := hP g hp; omega⟩

/-- the round that is the last -/
theorem names_out {B z : Nat} {w3 W W1 : World} {most : Int} {Pv : Nat → Prop} {pre : List (Bs × Nat)} {x y : Value} (L : NamesL B z w3 W W1 Pv pre x y) (hz : z = B + 8) (hz3 : w3.heap.size = z) (hn : (pre.length : Int) = most)
    (h4 : w3.heap[B + 1]? = some (.cells #[.slice none 0 0] 44 (0, 0))) (h5 : w3.heap[B + 2]? = some (.cells #[.slice none 0 0] 45 (0, 0))) :
    NamesX B z w3 most pre ((W1.setCell ⟨B + 1, 0, none⟩ x).setCell ⟨B + 2, 0, none⟩ y) x y ∧ Keep (fun k => k = B + 1 ∨ k = B + 2) W1 ((W1.setCell ⟨B + 1, 0, none⟩ x).setCell ⟨B + 2, 0, none⟩ y) := by
  have hk : Keep (fun k => k = B + 1 ∨ k = B + 2) W1 ((W1.setCell ⟨B + 1, 0, none⟩ x).setCell ⟨B + 2, 0, none⟩ y) :=
    ((Keep.refl (fun k => k = B + 1 ∨ k = B + 2) W1).setCell (p := ⟨B + 1, 0, none⟩) (fun _ => .inl rfl) _).setCell (p := ⟨B + 2, 0, none⟩) (fun _ => .inr rfl) _
  have c4 := L.keep.heap h4 (by omega)
  have c5 := L.keep.heap h5 (by omega)
  refine ⟨⟨L.keep.trans' hk (fun i hi e => by omega) (fun i hi e => by omega), ?_, ?_, own_keep L.rx hk (fun g e e2 => by have := (L.lx g e).1; omega), own_keep L.rz hk (fun g e e2 => by have := (L.lz g e).1; omega), fun g e => (L.lx g e).1, fun g e => (L.lz g e).1, hn⟩, hk⟩
  · refine set_other (by rw [set_blk c4]; simp) (by simp) _
  · rw [set_blk (set_other c5 (by simp) _)]; simp

theorem NamesX.drew {B z : Nat} {w3 W : World} {most : Int} {pre : List (Bs × Nat)} {x y : Value} (X : NamesX B z w3 most pre W x y) : NamesX B z w3 most pre W.drew x y :=
  ⟨X.keep.drew, X.bx, X.bz, X.rx, X.rz, X.lx, X.lz, X.all⟩

theorem sl_own {w : World} {e : TypeId} {v : Value} {n : Nat} {xs : List Value} (h : w.ownsRow 0 e 1 v n xs) : Sl w 1 v n xs := (Sl.of_owns h).1

/-- what the caller gets -/
theorem names_end {w w3 W : World} {sb : Nat} {most : Int} {s : OS} {pre : List (Bs × Nat)} {x y : Value} (hL : NamesLaid w w3 sb most) (X : NamesX w.heap.size w3.heap.size w3 pre.length pre W x y) (hp : pre = s.some most) :
    NamesPost s most w (.returned (.tuple #[x, y])) (W.putObj w3.heap.size (.deferred none)) ∧ (W.putObj w3.heap.size (.deferred none)).cell? ⟨w.heap.size + 1, 0, none⟩ = some x ∧ (W.putObj w3.heap.size (.deferred none)).cell? ⟨w.heap.size + 2, 0, none⟩ = some y := by
  have hs := hL.size
  have hk : Keep (· = w3.heap.size) W (W.putObj w3.heap.size (.deferred none)) := ⟨rfl, rfl, rfl, by rw [World.putObj_size]; exact Nat.le_refl _, fun k _ hn => World.putObj_heap_other (fun e => hn e)⟩
  refine ⟨⟨x, y, rfl, ?_, ?_, fun b e => ?_, fun b e => ?_, ?_⟩, ?_, ?_⟩
  · have := sl_own (own_keep X.rx hk (fun g e e2 => by have := X.lx g e; omega))
    rw [← hp]
    unfold StrsAt
    rw [List.length_map, List.map_map]
    exact this
  · have := sl_own (own_keep X.rz hk (fun g e e2 => by have := X.lz g e; omega))
    rw [← hp]
    unfold IntsAt
    rw [List.length_map, List.map_map]
    exact this
  · have := X.lx b e; omega
  · have := X.lz b e; omega
  · exact (hL.keep.trans' (X.keep.trans' (H := fun k => w.heap.size ≤ k) hk (fun i hi e => by omega) (fun i hi e => by omega)) (fun _ _ e => e) (fun i hi e => by omega))
  · rw [cell_blk (hk.heap X.bx (by omega))]; rfl
  · rw [cell_blk (hk.heap X.bz (by omega))]; rfl

set_option maxRecDepth 100000 in
set_option maxHeartbeats 4000000 in
theorem names_any {w : World} {sb : Nat} {f : Value} {S : Nat → Prop} {s : OS} (h : St w sb f S s) (most : Int) (hm : 0 < most) (hm2 : most ≤ 9223372036854775807) :
    Calls Try.prog 26 #[.pointer (some ⟨sb, 0, none⟩), .int .i64 most] w (NamesPost s most w) := by
  obtain ⟨G, hO, -, -, -, -⟩ := h
  have hsb := lt_blk hO.blk
  have hmb := MapP.lt hO.map
  have hsb' : sb < w.heap.size := hsb
  have hmany := hO.ok.many
  have hL := names_laid w sb most
  refine (callsIn_wide (n := 9)).1 ?_
  refine callsIn_of_wp_marks Try.func26 rfl trivial ?_ rfl
  simp only [Try.ntmps26, List.size_toArray, List.length_cons, List.length_nil, Nat.reduceAdd, Nat.reduceSub, Array.replicate_succ, Array.replicate_zero, List.push_toArray, List.append_toArray, List.nil_append, List.cons_append]
  gi_wp2_with fail
  refine ⟨trivial, ?_⟩
  refine (callsIn_wide.2 (all_any sb _)).mono ?_
  rintro e w2 ⟨rfl, rfl⟩
  gi_wp2
  obtain ⟨w3, hw3⟩ : ∃ w3, (((((((((w.alloc (.cells #[.int .i64 most] 3)).alloc (.cells #[.slice none 0 0] 44)).alloc (.cells #[.slice none 0 0] 45)).alloc (.cells #[] 9)).alloc (.cells #[] 3)).alloc
    (.cells #[.slice (some ⟨w.heap.size + 1 + 1 + 1, 0, none⟩) 0 0] 44)).alloc (.cells #[.slice (some ⟨w.heap.size + 1 + 1 + 1 + 1, 0, none⟩) 0 0] 45)).alloc (.cells #[.pointer (some ⟨sb, 0, none⟩)] 26))) = w3 := ⟨_, rfl⟩
  rw [hw3] at hL ⊢
  clear hw3
  have hO3 := hO.keep0 hL.keep
  have hQ : ∀ k, (k = sb ∨ k = G.mb ∨ k = w.heap.size + 7) → k < w3.heap.size := by
    rintro k (rfl | rfl | rfl)
    · have := hL.size; omega
    · have := hL.size; omega
    · have := hL.size; omega
  simp only [Nat.add_assoc, Nat.reduceAdd]
  refine wp_range (n := 9) (gf := 107) (lb := #[.pointer (some ⟨w.heap.size + 7, 0, none⟩)]) (encs := encN) (xs := s.list) (Qb := fun k => k = sb ∨ k = G.mb ∨ k = w.heap.size + 7) rfl (fun _ _ => rfl) hQ
      (fun W hb => all1_iter _ sb G s _ W (hO3.below hb) ((hb.block _ (by rw [hL.size]; omega)).trans hL.b8)) (fun _ => rfl)
      (fun Pv pre W => ∃ x y, NamesI w.heap.size w3.heap.size w3 most Pv pre W x y)
      (fun c pre W => c = .ret ∧ ∃ x y, NamesX w.heap.size w3.heap.size w3 most pre W x y) ?i0 ?ip ?ixp
      (fun x => { tmps := #[.pointer (some ⟨sb, 0, none⟩), .int .i64 most, undef, .pointer (some ⟨w.heap.size, 0, none⟩), .pointer (some ⟨w.heap.size + 1, 0, none⟩), .pointer (some ⟨w.heap.size + 2, 0, none⟩), .pointer (some ⟨w.heap.size + 5, 0, none⟩), .pointer (some ⟨w.heap.size + 6, 0, none⟩), strV x.1, .int .i64 x.2,
          .slice (some ⟨w.heap.size + 3, 0, none⟩) 0 0, .slice (some ⟨w.heap.size + 4, 0, none⟩) 0 0,   .int .i64 most, .bool (decide (most ≤ 0)), undef, undef, .pointer (some ⟨sb, 0, none⟩), .func (.func 107) #[] #[.pointer (some ⟨w.heap.size + 7, 0, none⟩)], strV x.1, .int .i64 x.2,
          undef, undef, undef, undef, undef, undef, undef, undef, undef, undef, undef, undef, undef, undef, undef, undef], defers := [] }) ?assign ?body ?done ?stop
  case assign =>
    intro l x W K hK
    gi_wp2
    exact hK
  case i0 =>
    intro W Pv hb hPv
    have hs := hL.size
    refine ⟨_, _, Keep.of_below hb _, (hb.block _ (by omega)).trans hL.b6, (hb.block _ (by omega)).trans hL.b7, ?_, ?_, ?_, ?_, ?_, by simpa using hm⟩
    · exact ⟨rfl, .inr ⟨_, 0, #[], rfl, Nat.zero_le _, (hb.block _ (by omega)).trans hL.e6, Nat.le_refl _, Nat.zero_le _, rfl, rfl⟩⟩
    · exact ⟨rfl, .inr ⟨_, 0, #[], rfl, Nat.zero_le _, (hb.block _ (by omega)).trans hL.e7, Nat.le_refl _, Nat.zero_le _, rfl, rfl⟩⟩
    · intro g e
      simp only [vblk, Option.some.injEq] at e
      subst e
      exact ⟨.inl rfl, fun hp => by have := hPv _ hp; omega⟩
    · intro g e
      simp only [vblk, Option.some.injEq] at e
      subst e
      exact ⟨.inl rfl, fun hp => by have := hPv _ hp; omega⟩
    · intro g e e2
      simp only [vblk, Option.some.injEq] at e e2
      omega
  case ip =>
    rintro Pv pre W r o' ⟨x, y, J⟩ hl
    have hs := hL.size
    have hk : Keep (· = w3.heap.size + 1) W (W.putObj (w3.heap.size + 1) o') := ⟨rfl, rfl, rfl, by rw [World.putObj_size]; exact Nat.le_refl _, fun k _ hn => World.putObj_heap_other (fun e => hn e)⟩
    refine ⟨x, y, J.keep.trans' hk (fun _ _ e => e) (fun i hi e => by omega), hk.heap J.bx (by omega), hk.heap J.bz (by omega), own_keep J.rx hk (fun g e e2 => ?_), own_keep J.rz hk (fun g e e2 => ?_), J.lx, J.lz, J.dis, J.less⟩
    · have := (J.lx g e).1; omega
    · have := (J.lz g e).1; omega
  case ixp =>
    rintro c pre W r o' ⟨rfl, x, y, J⟩ hl
    have hs := hL.size
    have hk : Keep (· = w3.heap.size + 1) W (W.putObj (w3.heap.size + 1) o') := ⟨rfl, rfl, rfl, by rw [World.putObj_size]; exact Nat.le_refl _, fun k _ hn => World.putObj_heap_other (fun e => hn e)⟩
    refine ⟨rfl, x, y, J.keep.trans' hk (fun _ _ e => e) (fun i hi e => by omega), hk.heap J.bx (by omega), hk.heap J.bz (by omega), own_keep J.rx hk (fun g e e2 => ?_), own_keep J.rz hk (fun g e e2 => ?_), J.lx, J.lz, J.all⟩
    · have := (J.lx g e); omega
    · have := (J.lz g e); omega
  case body =>
    rintro l Pv pre x W rfl ⟨vx, vy, J⟩ hpre ⟨r, hl⟩ hD hP
    have hs := Lib.hid hL.size
    gi_wp2_with fail
    refine region_inRound (fun listed a W' => ∃ (b0 b1 b2 b3 b4 b5 b6 b7 b8 b9 : Bool) (q20 q21 q22 q23 q24 q25 q26 q27 : Value), listed = #[b0, b1, b2, b3, b4, b5, b6, b7, b8, b9] ∧
        a = { tmps := #[.pointer (some ⟨sb, 0, none⟩), .int .i64 most, undef, .pointer (some ⟨w.heap.size, 0, none⟩), .pointer (some ⟨w.heap.size + 1, 0, none⟩), .pointer (some ⟨w.heap.size + 2, 0, none⟩), .pointer (some ⟨w.heap.size + 5, 0, none⟩), .pointer (some ⟨w.heap.size + 6, 0, none⟩), strV x.1, .int .i64 x.2,
          .slice (some ⟨w.heap.size + 3, 0, none⟩) 0 0, .slice (some ⟨w.heap.size + 4, 0, none⟩) 0 0, .int .i64 most, .bool (decide (most ≤ 0)), undef, undef, .pointer (some ⟨sb, 0, none⟩), .func (.func 107) #[] #[.pointer (some ⟨w.heap.size + 7, 0, none⟩)], strV x.1, .int .i64 x.2,
          q20, q21, q22, q23, q24, q25, q26, q27, undef, undef, undef, undef, undef, undef, undef, undef], defers := [] } ∧
        (b0 = true → q20 = vx) ∧ (b4 = true → q24 = vy) ∧ (b3 = true → b0 = true) ∧ (b7 = true → b4 = true) ∧ NamesJ w.heap.size W.drew vx vy pre.length (strs pre) (nums pre) ⟨x.1.toArray⟩ x.2 b1 b2 b3 b5 b6 b7 b8 b9 q21 q22 q23 q25 q26 q27 W') (by kernel_rfl) ?hops ?h0 ?hs ?hd
    case hops =>
      intro i o c ho
      have hm := Array.mem_of_getElem? ho
      simp at hm
      rcases hm with rfl | rfl | rfl | rfl | rfl | rfl | rfl | rfl | rfl | rfl <;> (intro h; cases h)
    case h0 =>
      have hd : Keep (fun k => vblk vx = some k ∨ vblk vy = some k ∨ k = w.heap.size + 5 ∨ k = w.heap.size + 6) W.drew W.drew := Keep.refl _ _
      refine ⟨false, false, false, false, false, false, false, false, false, false, undef, undef, undef, undef, undef, undef, undef, undef, rfl, rfl, (fun e => by cases e), (fun e => by cases e), (fun e => by cases e), (fun e => by cases e), ?_⟩
      refine ⟨(fun e => by cases e), (fun e => by cases e), (fun e => by cases e), (fun e => by cases e), (fun e => by cases e), (fun e => by cases e), (fun e => by cases e), J.rx, J.rz, J.dis, fun g e => .inl e, fun g e => .inl e, J.bx, J.bz, hd⟩
    case hs =>
      rintro _ _ W1 ⟨b0, b1, b2, b3, b4, b5, b6, b7, b8, b9, q20, q21, q22, q23, q24, q25, q26, q27, rfl, rfl, m20, m24, o30, o74, j⟩ i hi
      obtain ⟨hun, o, ho, hall⟩ := mem_ready.1 hi
      clear hi
      have hlt : i < 10 := (Array.getElem?_eq_some_iff.1 ho).1
      have hle : pre.length + 1 ≤ 4096 := by
        have h1 := hpre.length_le
        simp [OS.list] at h1
        omega
      have hx : ∀ g, vblk vx = some g → g ≠ w.heap.size + 5 ∧ g ≠ w.heap.size + 6 := fun g e => by have := (J.lx g e).1; have := hs.out; omega
      have hy : ∀ g, vblk vy = some g → g ≠ w.heap.size + 5 ∧ g ≠ w.heap.size + 6 := fun g e => by have := (J.lz g e).1; have := hs.out; omega
      have hx0 : ∀ g, vblk vx = some g → g < W.drew.heap.size := fun g e => (own_lt J.rx g e).2
      have hB : w.heap.size + 6 < W.drew.heap.size := lt_blk J.bz
      match i, hlt with
      | 0, _ =>
        simp at ho hun
        subst ho; subst hun
        have h3 : b3 = false := by cases b3; rfl; exact absurd (o30 rfl) (by simp)
        subst h3
        have h7 : b7 = false := by cases b7; rfl; exact absurd (j.o73 rfl) (by simp)
        subst h7
        have h8 : b8 = false := by cases b8; rfl; exact absurd (j.o87 rfl) (by simp)
        subst h8
        have c6 := cell_blk j.bx 0
        simp at c6
        refine opStep_step rfl (fun K hK => ?_)
        have HK := Lib.hid hK; clear hK
        go_simp
        exact HK.out _ _ ⟨_, b1, _, _, _, _, _, _, _, _, _, _, _, _, _, _, _, _, rfl, rfl, fun _ => rfl, m24, (fun e => by cases e), o74, j⟩
      | 1, _ =>
        simp at ho hun
        subst ho; subst hun
        refine opStep_step rfl (fun K hK => ?_)
        have HK := Lib.hid hK; clear hK
        go_simp
        exact HK.out _ _ ⟨b0, _, _, _, _, _, _, _, _, _, _, _, _, _, _, _, _, _, rfl, rfl, m20, m24, o30, o74, j.s1⟩
      | 2, _ =>
        simp at ho hun
        subst ho; subst hun
        have e1 := hall ⟨1, .data⟩ (by simp) rfl
        simp at e1
        subst e1
        have m21 := j.m21 rfl
        subst m21
        refine opStep_step rfl (fun K hK => ?_)
        have HK := Lib.hid hK; clear hK
        go_simp
        exact HK.out _ _ ⟨b0, _, _, _, _, _, _, _, _, _, _, _, _, _, _, _, _, _, rfl, rfl, m20, m24, o30, o74, j.s2⟩
      | 3, _ =>
        simp at ho hun
        subst ho; subst hun
        have e0 := hall ⟨0, .data⟩ (by simp) rfl
        have e2 := hall ⟨2, .data⟩ (by simp) rfl
        simp at e0 e2
        subst e0; subst e2
        have h7 : b7 = false := by cases b7; rfl; exact absurd (j.o73 rfl) (by simp)
        subst h7
        have h8 : b8 = false := by cases b8; rfl; exact absurd (j.o87 rfl) (by simp)
        subst h8
        have h9 : b9 = false := by cases b9; rfl; exact absurd (j.o98 rfl) (by simp)
        subst h9
        have m20 := m20 rfl
        subst m20
        obtain ⟨g, rfl, hc⟩ := j.m22 rfl rfl
        obtain ⟨i0, hi, hz0, hz1, hz2⟩ := info_parts info_string
        refine opStep_step rfl (fun K hK => ?_)
        rw [if_pos (by rfl)]
        refine oper_append_row W1 _ _ 44 rfl 0 9 i0 (.string ⟨#[]⟩) 1 16 Try.underlying44 hi hz0 hz1 hz2 rfl (by decide) q20 pre.length (strs pre) rfl j.rx ⟨g, 0, none⟩ 1 1 [.string ⟨x.1.toArray⟩] rfl rfl ?_ (by simp [Value.oneCell']) (by unfold maxLen; omega) (by omega) (Nat.zero_le _) (by decide) ?_
        · intro k u hu
          match k with
          | 0 => simp at hu; subst hu; exact hc
          | k + 1 => simp at hu
        intro g' cap w' h1 h2 h3
        exact hK _ _ ⟨_, _, _, _, _, _, _, _, _, _, _, _, _, _, _, _, _, _, rfl, rfl, fun _ => rfl, m24, fun _ => rfl, o74, j.s3 hx0 hx h1 h2 h3⟩
      | 4, _ =>
        simp at ho hun
        subst ho; subst hun
        have h7 : b7 = false := by cases b7; rfl; exact absurd (o74 rfl) (by simp)
        subst h7
        have h8 : b8 = false := by cases b8; rfl; exact absurd (j.o87 rfl) (by simp)
        subst h8
        have h9 : b9 = false := by cases b9; rfl; exact absurd (j.o98 rfl) (by simp)
        subst h9
        have c6 := cell_blk j.bz 0
        simp at c6
        refine opStep_step rfl (fun K hK => ?_)
        have HK := Lib.hid hK; clear hK
        go_simp
        exact HK.out _ _ ⟨b0, _, _, _, _, _, _, _, _, _, _, _, _, _, _, _, _, _, rfl, rfl, m20, fun _ => rfl, o30, (fun e => by cases e), j⟩
      | 5, _ =>
        simp at ho hun
        subst ho; subst hun
        refine opStep_step rfl (fun K hK => ?_)
        have HK := Lib.hid hK; clear hK
        go_simp
        exact HK.out _ _ ⟨b0, _, _, _, _, _, _, _, _, _, _, _, _, _, _, _, _, _, rfl, rfl, m20, m24, o30, o74, j.s5⟩
      | 6, _ =>
        simp at ho hun
        subst ho; subst hun
        have e1 := hall ⟨5, .data⟩ (by simp) rfl
        simp at e1
        subst e1
        have m25 := j.m25 rfl
        subst m25
        refine opStep_step rfl (fun K hK => ?_)
        have HK := Lib.hid hK; clear hK
        go_simp
        exact HK.out _ _ ⟨b0, _, _, _, _, _, _, _, _, _, _, _, _, _, _, _, _, _, rfl, rfl, m20, m24, o30, o74, j.s6⟩
      | 7, _ =>
        simp at ho hun
        subst ho; subst hun
        have e0 := hall ⟨4, .data⟩ (by simp) rfl
        have e2 := hall ⟨6, .data⟩ (by simp) rfl
        have e3 := hall ⟨3, .chain⟩ (by simp) rfl
        simp at e0 e2 e3
        subst e0; subst e2; subst e3
        have h8 : b8 = false := by cases b8; rfl; exact absurd (j.o87 rfl) (by simp)
        subst h8
        have h9 : b9 = false := by cases b9; rfl; exact absurd (j.o98 rfl) (by simp)
        subst h9
        have m24 := m24 rfl
        subst m24
        obtain ⟨g, rfl, hc, _⟩ := j.m26 rfl rfl
        obtain ⟨i0, hi, hz0, hz1, hz2⟩ := info_parts info_int
        refine opStep_step rfl (fun K hK => ?_)
        rw [if_pos (by rfl)]
        refine oper_append_row W1 _ _ 45 rfl 0 3 i0 (.int .i64 0) 1 8 Try.underlying45 hi hz0 hz1 hz2 rfl (by decide) q24 pre.length (nums pre) rfl j.rz ⟨g, 0, none⟩ 1 1 [.int .i64 x.2] rfl rfl ?_ (by simp [Value.oneCell']) (by unfold maxLen; omega) (by omega) (Nat.zero_le _) (by decide) ?_
        · intro k u hu
          match k with
          | 0 => simp at hu; subst hu; exact hc
          | k + 1 => simp at hu
        intro g' cap w' h1 h2 h3
        exact hK _ _ ⟨_, _, _, _, _, _, _, _, _, _, _, _, _, _, _, _, _, _, rfl, rfl, m20, fun _ => rfl, o30, fun _ => rfl, j.s7 hy h1 h2 h3⟩
      | 8, _ =>
        simp at ho hun
        subst ho; subst hun
        have e3 := hall ⟨3, .data⟩ (by simp) rfl
        have e7 := hall ⟨7, .chain⟩ (by simp) rfl
        simp at e3 e7
        subst e3; subst e7
        have h9 : b9 = false := by cases b9; rfl; exact absurd (j.o98 rfl) (by simp)
        subst h9
        obtain ⟨a4, c4, rfl⟩ : ∃ a c, q23 = .slice a (pre.length + 1) c := by
          have := j.rx
          simp only [if_true] at this
          exact own_slice this
        have c6 := cell_blk j.bx 0
        have f6 := frozen_blk j.bx 0
        simp at c6
        have M20 := Lib.hid m20; have M24 := Lib.hid m24; clear m20 m24
        refine opStep_step rfl (fun K hK => ?_)
        have HK := Lib.hid hK; clear hK
        go_simp
        exact HK.out _ _ ⟨b0, _, _, _, _, _, _, _, _, _, _, _, _, _, _, _, _, _, rfl, rfl, M20.out, M24.out, o30, o74, j.s8 hB hx hy⟩
      | 9, _ =>
        simp at ho hun
        subst ho; subst hun
        have e3 := hall ⟨7, .data⟩ (by simp) rfl
        have e7 := hall ⟨8, .chain⟩ (by simp) rfl
        simp at e3 e7
        subst e3; subst e7
        have h3 := j.o73 rfl
        subst h3
        obtain ⟨a4, c4, rfl⟩ : ∃ a c, q27 = .slice a (pre.length + 1) c := by
          have := j.rz
          simp only [if_true] at this
          exact own_slice this
        have c6 := cell_blk j.bz 0
        have f6 := frozen_blk j.bz 0
        simp at c6
        have M20 := Lib.hid m20; have M24 := Lib.hid m24; clear m20 m24
        refine opStep_step rfl (fun K hK => ?_)
        have HK := Lib.hid hK; clear hK
        go_simp
        exact HK.out _ _ ⟨b0, _, _, _, _, _, _, _, _, _, _, _, _, _, _, _, _, _, rfl, rfl, M20.out, M24.out, o30, o74, j.s9 hB hx hy⟩
    case hd =>
      rintro _ _ W1 ⟨b0, b1, b2, b3, b4, b5, b6, b7, b8, b9, q20, q21, q22, q23, q24, q25, q26, q27, rfl, rfl, m20, m24, o30, o74, j⟩ hr
      have hn : ∀ i, i ∈ Region.ready .any _ _ → False := fun i hi => by rw [hr] at hi; cases hi
      have t0 : b0 = true := by cases b0; exact (hn 0 (mem_ready.2 ⟨rfl, _, rfl, by simp⟩)).elim; rfl
      subst t0
      have t0 : b1 = true := by cases b1; exact (hn 1 (mem_ready.2 ⟨rfl, _, rfl, by simp⟩)).elim; rfl
      subst t0
      have t0 : b4 = true := by cases b4; exact (hn 4 (mem_ready.2 ⟨rfl, _, rfl, by simp⟩)).elim; rfl
      subst t0
      have t0 : b5 = true := by cases b5; exact (hn 5 (mem_ready.2 ⟨rfl, _, rfl, by simp⟩)).elim; rfl
      subst t0
      have t0 : b2 = true := by cases b2; exact (hn 2 (mem_ready.2 ⟨rfl, _, rfl, by simp⟩)).elim; rfl
      subst t0
      have t0 : b6 = true := by cases b6; exact (hn 6 (mem_ready.2 ⟨rfl, _, rfl, by simp⟩)).elim; rfl
      subst t0
      have t0 : b3 = true := by cases b3; exact (hn 3 (mem_ready.2 ⟨rfl, _, rfl, by simp⟩)).elim; rfl
      subst t0
      have t0 : b7 = true := by cases b7; exact (hn 7 (mem_ready.2 ⟨rfl, _, rfl, by simp⟩)).elim; rfl
      subst t0
      have t0 : b8 = true := by cases b8; exact (hn 8 (mem_ready.2 ⟨rfl, _, rfl, by simp⟩)).elim; rfl
      subst t0
      have t0 : b9 = true := by cases b9; exact (hn 9 (mem_ready.2 ⟨rfl, _, rfl, by simp⟩)).elim; rfl
      subst t0
      clear hn hr m20 m24 o30 o74
      have hz : w3.heap.size = w.heap.size + 8 := hs.out
      have hzW : w3.heap.size + 2 ≤ W.heap.size := by have := lt_blk hl; omega
      have L := names_step J j hz rfl hzW hP
      obtain ⟨a4, c4, rfl⟩ := own_slice L.rx
      obtain ⟨a5, c5, rfl⟩ := own_slice L.rz
      have bx := cell_blk L.bx 0
      have bz := cell_blk L.bz 0
      have b3 := cell_blk (L.keep.heap hL.b3 (by omega)) 0
      have h4 := L.keep.heap hL.b4 (by omega)
      have h5 := L.keep.heap hL.b5 (by omega)
      have b4 := cell_blk h4 0
      have b5 := cell_blk h5 0
      have f4 := frozen_blk h4 0
      have f5 := frozen_blk h5 0
      simp at bx bz b3 b4 b5
      have hln : (pre ++ [x]).length = pre.length + 1 := by simp
      have hQ2 : ∀ k, (k = w3.heap.size + 1 ∨ k = w3.heap.size ∨ Pv k ∨ k = sb ∨ k = G.mb ∨ k = w.heap.size + 7) → (k = w3.heap.size + 1 ∨ k = w3.heap.size ∨ Pv k ∨ (k < w3.heap.size ∧ k ≠ w.heap.size + 3 ∧ k ≠ w.heap.size + 4 ∧ k ≠ w.heap.size + 5 ∧ k ≠ w.heap.size + 6)) := by
        rintro k (rfl | rfl | hk | rfl | rfl | rfl)
        · exact .inl rfl
        · exact .inr (.inl rfl)
        · exact .inr (.inr (.inl hk))
        · exact .inr (.inr (.inr (by omega)))
        · exact .inr (.inr (.inr (by omega)))
        · exact .inr (.inr (.inr (by omega)))
      by_cases hlast : (pre.length : Int) + 1 = most
      · have X := names_out L hz rfl (by simpa using hlast) hL.b4 hL.b5
        have hx0 : (pre ++ [x]).length = pre.length + 1 := hln
        have X1 := Lib.hid X.1; have X2 := Lib.hid X.2; clear X
        gi_wp2_with fail
        simp only [hx0] at X1 X2
        gi_region
        all_goals
          have kb : KeepB (fun k => k = w3.heap.size + 1 ∨ k = w3.heap.size ∨ Pv k ∨ k = sb ∨ k = G.mb ∨ k = w.heap.size + 7) W1 ((W1.setCell ⟨w.heap.size + 1, 0, none⟩ (.slice a4 (pre.length + 1) c4)).setCell ⟨w.heap.size + 2, 0, none⟩ (.slice a5 (pre.length + 1) c5)).drew := by
            refine KeepB.of_keep (X2.out.drew) (fun k hk => ?_)
            have h1 := L.step.1
            rcases hk with rfl | rfl | hk | rfl | rfl | rfl
            · omega
            · omega
            · have := hP k hk; omega
            · omega
            · omega
            · omega
          have KB := Lib.hid kb; clear kb
          gi_wp2_with fail
          exact ⟨(L.step.mono hQ2).trans KB.out, rfl, _, _, X1.out.drew⟩
      · gi_wp2_with fail
        refine ⟨L.step.mono hQ2, _, _, L.keep, L.bx, L.bz, L.rx, L.rz, L.lx, L.lz, L.dis, ?_⟩
        have := J.less
        simp only [hln]
        omega
  case done =>
    rintro Pv W ⟨vx, vy, J⟩ hD
    have hs := hL.size
    obtain ⟨a4, c4, rfl⟩ := own_slice J.rx
    obtain ⟨a5, c5, rfl⟩ := own_slice J.rz
    have bx := cell_blk J.bx 0
    have bz := cell_blk J.bz 0
    have h4 := J.keep.heap hL.b4 (by omega)
    have h5 := J.keep.heap hL.b5 (by omega)
    have b4 := cell_blk h4 0
    have b5 := cell_blk h5 0
    have f4 := frozen_blk h4 0
    have f5 := frozen_blk h5 0
    simp at bx bz b4 b5
    have L : NamesL w.heap.size w3.heap.size w3 W W Pv s.list (.slice a4 s.list.length c4) (.slice a5 s.list.length c5) := ⟨J.keep, KeepB.refl _ _, J.bx, J.bz, J.rx, J.rz, J.lx, J.lz, J.dis⟩
    have X := names_out (most := s.list.length) L hs rfl rfl hL.b4 hL.b5
    have hp : s.list = s.some most := by
      unfold OS.some
      rw [List.take_of_length_le]
      have := J.less
      omega
    obtain ⟨E1, E2, E3⟩ := names_end hL X.1.drew hp
    have hD2 := X.2.drew.heap hD (by omega)
    have HD := Lib.hid hD2; have HE := Lib.hid E1; have HJ := Lib.hid J; have HS := Lib.hid hs; clear J hs L X hD2 E1 hp
    gi_wp2_with fail
    gi_region
    all_goals
      gi_wp2_with fail
      refine ⟨by simp, .inl ⟨_, _, rfl, run_takeDeferred HD.out, ?_⟩⟩
      refine ⟨_, by simp [results, Try.results26, go_sem, E2, E3], HE.out⟩
  case stop =>
    rintro c pre W hpre ⟨rfl, vx, vy, J⟩ hD
    have hp : pre = s.some most := by
      unfold OS.some
      have := J.all
      rw [show most.toNat = pre.length from by omega]
      exact List.prefix_iff_eq_take.1 hpre
    have J' : NamesX w.heap.size w3.heap.size w3 pre.length pre W vx vy := { J with all := rfl }
    obtain ⟨E1, E2, E3⟩ := names_end hL J' hp
    have HE := Lib.hid E1; have HJ := Lib.hid J; clear J J' E1 hp
    gi_wp2_with fail
    refine ⟨by simp, .inl ⟨_, _, rfl, run_takeDeferred hD, ?_⟩⟩
    refine ⟨_, by simp [results, Try.results26, go_sem, E2, E3], HE.out⟩

theorem names_none {w : World} {sb : Nat} {s : OS} (most : Int) (hm : most ≤ 0) :
    Calls Try.prog 26 #[.pointer (some ⟨sb, 0, none⟩), .int .i64 most] w (NamesPost s most w) := by
  refine (callsIn_wide (n := 9)).1 ?_
  refine callsIn_of_wp_marks Try.func26 rfl trivial ?_ rfl
  simp only [Try.ntmps26, List.size_toArray, List.length_cons, List.length_nil, Nat.reduceAdd, Nat.reduceSub, Array.replicate_succ, Array.replicate_zero, List.push_toArray, List.append_toArray, List.nil_append, List.cons_append]
  gi_wp2_with fail
  gi_region
  all_goals
    gi_wp2_with fail
    refine ⟨.tuple #[.slice (some ⟨w.heap.size + 1 + 1 + 1, 0, none⟩) 0 0, .slice (some ⟨w.heap.size + 1 + 1 + 1 + 1, 0, none⟩) 0 0], by simp [results, Try.results26, go_sem], _, _, rfl, ?_, ?_, fun b e => ?_, fun b e => ?_, ((((((((Keep.refl _ w).alloc _).alloc _).alloc _).alloc _).alloc _).alloc _).alloc _).drew⟩
    · rw [show s.some most = [] from by unfold OS.some; rw [show most.toNat = 0 from by omega]; rfl]
      exact ⟨rfl, _, 0, rfl, Nat.le_refl _, Nat.zero_le _, fun _ => rfl, fun h => absurd h (by simp)⟩
    · rw [show s.some most = [] from by unfold OS.some; rw [show most.toNat = 0 from by omega]; rfl]
      exact ⟨rfl, _, 0, rfl, Nat.le_refl _, Nat.zero_le _, fun _ => rfl, fun h => absurd h (by simp)⟩
    · simp [vblk] at e; omega
    · simp [vblk] at e; omega
end Go.Proofs.Ytgnigkghkldcfaa
