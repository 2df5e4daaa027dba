/-
  coldstorelaw06.names: up to so many names, and how many bytes their things have.
-/
import Derived.Test.YtlajejbglpggeaaNew
import Derived.Test.YtlajejbglpggeaaDraw
import Derived.Deep.RegionHeld3
namespace Go.Proofs.Ytlajejbglpggeaa
open Go.RowKit Go.Proofs Go.Lib Go.Maps Go.Shelf
attribute [local go_sem] Oper.semAt_some

theorem info_int : (Try.prog.info? 3).map (fun i => (i.zero, i.size, i.bytes)) = some (some (.int .i64 0), 1, 8) := by kernel_rfl
def IntsAt (w : World) (v : Value) (l : List Int) : Prop := Sl w 1 v l.length (l.map (.int .i64))
def OS.some (s : OS) (most : Int) : List (Bs × Nat) := s.list.take most.toNat

def NamesPost (s : OS) (most : Int) (w : World) (e : Ending) (w' : World) : Prop :=
  ∃ x y, e = .returned (.tuple #[x, y]) ∧ StrsAt w' x ((s.some most).map (·.1)) ∧ IntsAt w' y ((s.some most).map (fun p => (p.2 : Int))) ∧
    (∀ b, vblk x = some b → w.heap.size ≤ b) ∧ (∀ b, vblk y = some b → w.heap.size ≤ b) ∧ Keep (fun _ => False) w w'

theorem alloc_at {w : World} {n : Nat} (h : w.heap.size = n) (o : Obj) : (w.alloc o).heap[n]? = some o := by rw [← h]; exact alloc_new w o

abbrev strs (l : List (Bs × Nat)) : List Value := l.map fun p => strV p.1
abbrev nums (l : List (Bs × Nat)) : List Value := l.map fun p => .int .i64 p.2

section
variable {B : Nat} {W0 : World} {vx vy : Value} {n : Nat} {xs ys : List Value} {name : ByteArray} {num : Int} {b1 b2 b3 b5 b6 b7 b8 b9 : Bool} {q21 q22 q23 q25 q26 q27 : Value} {w : World}

end

theorem KeepB.mono {B C : Nat → Prop} {X Y : World} (h : KeepB B X Y) (hB : ∀ k, C k → B k) : KeepB C X Y := ⟨h.1, fun k hk => h.2 k (hB k hk)⟩

theorem sl_own {w : World} {e : TypeId} {v : Value} {n : Nat} {xs : List Value} (h : w.ownsRow 0 e 1 v n xs) : Sl w 1 v n xs := (Sl.of_owns h).1

end Go.Proofs.Ytlajejbglpggeaa
