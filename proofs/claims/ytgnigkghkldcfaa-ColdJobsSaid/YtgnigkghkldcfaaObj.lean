/-
  The object store: what its blocks hold; the contract of op.
-/
import Derived.Test.YtgnigkghkldcfaaGuard
import Derived.Test.YtgnigkghkldcfaaRowLaw
import Derived.Test.YtgnigkghkldcfaaNameLaw
namespace Go.Proofs.Ytgnigkghkldcfaa
open Go.RowKit Go.Proofs

abbrev MapAt (w : World) (mb : Nat) (m : List (Bs × Value)) : Prop := MapP Try.prog 9 w mb m

/-- What a store is. -/
structure OS where
  row : List (Bs × Bs)
  quota : Int
  ops : Int
  left : Int
  faults : List Bool

/-- Where it lies. -/
structure OG where
  mb : Nat
  ents : List (Bs × Value)
  fuse : Value
  faults : Value

/-- What holds of every store. -/
structure OS.Ok (s : OS) : Prop where
  quota : 0 ≤ s.quota ∧ s.quota ≤ 9223372036854775807
  size : (sizeR s.row : Int) ≤ s.quota
  ops : 0 ≤ s.ops ∧ s.ops ≤ 4611686018427387904
  rising : Rising s.row
  names : ∀ r ∈ s.row, nameOK r.1 = true ∧ r.2.length ≤ 1048576
  many : s.row.length ≤ 4096

def FuseIs (w : World) (v : Value) (left : Int) : Prop := (v = .pointer none ∧ left = -1) ∨ ∃ fb, v = .pointer (some ⟨fb, 0, none⟩) ∧ FuseAt w fb left

theorem FuseIs.keep {F : Nat → Prop} {w w' : World} {v : Value} {n : Int} (h : FuseIs w v n) (k : Keep F w w') (hF : ∀ fb, v = .pointer (some ⟨fb, 0, none⟩) → ¬ F fb) : FuseIs w' v n := by
  rcases h with h | ⟨fb, e, h⟩
  · exact .inl h
  · exact .inr ⟨fb, e, h.keep k (hF fb e)⟩

abbrev EntR (w : World) (e : Bs × Value) (r : Bs × Bs) : Prop := e.1 = r.1 ∧ BytesAt w e.2 r.2
structure ObjAt (w : World) (sb : Nat) (G : OG) (s : OS) : Prop where
  blk : w.heap[sb]? = some (.cells #[.map (some G.mb), .int .i64 s.quota, .int .i64 (sizeR s.row), .int .i64 s.ops, G.fuse, G.faults] 117 (0, 0))
  map : MapAt w G.mb G.ents
  rows : All2 (EntR w) G.ents s.row
  fuse : FuseIs w G.fuse s.left
  faults : Sl w 1 G.faults s.faults.length (s.faults.map .bool)
  ok : s.Ok

def OS.code (s : OS) : Int := if s.faults.head? = some true then 30 else 0
def OS.op (s : OS) : OS := { s with left := decF s.left, ops := s.ops + 1, faults := s.faults.tail }


/-- Blocks of other kinds than bytes. -/
theorem BytesAt.ne_cells {w : World} {v : Value} {l : Bs} (h : BytesAt w v l) {b : Nat} {cs : Array Value} {t : TypeId} {f : Nat × Nat} (hb : w.heap[b]? = some (.cells cs t f)) (hcs : ∀ (x : Int) (i : Nat), cs[i]? ≠ some (.int .u8 x)) :
    0 < l.length → vblk v ≠ some b := by
  refine Sl.ne_cells h (by decide) hb ?_
  intro x hx i
  cases l with
  | nil => simp [bytesV] at hx
  | cons c l => simp [bytesV] at hx; subst hx; exact hcs _ _

/-- the entries and the rows in step: look-up -/
theorem lk_step {w : World} : ∀ {m : List (Bs × Value)} {row : List (Bs × Bs)}, All2 (EntR w) m row → ∀ k, (lk m k = none ∧ lk row k = none) ∨ ∃ v l, lk m k = some v ∧ lk row k = some l ∧ BytesAt w v l
  | [], [], _, k => .inl ⟨rfl, rfl⟩
  | a :: l, b :: r, h, k => by
    rw [lk_cons, lk_cons, ← h.1.1]
    by_cases hk : (a.1 == k) = true
    · rw [if_pos hk, if_pos hk]
      exact .inr ⟨a.2, b.2, rfl, rfl, h.1.2⟩
    · rw [if_neg hk, if_neg hk]
      exact lk_step h.2 k
  | [], _ :: _, h, _ => h.elim
  | _ :: _, [], h, _ => h.elim

theorem op_blow (sb : Nat) (G : OG) (s : OS) (w : World) (h : ObjAt w sb G s) (hl : s.left = 0) :
    ∃ fb, G.fuse = .pointer (some ⟨fb, 0, none⟩) ∧ Calls Try.prog 70 #[.pointer (some ⟨sb, 0, none⟩)] w fun e w' => e = .panicked (blowChain fb) ∧ w = w' := by
  rcases h.fuse with ⟨_, h1⟩ | ⟨fb, hfb, hF⟩
  · omega
  · refine ⟨fb, hfb, ?_⟩
    rw [hl] at hF
    have c4 : w.cell? ⟨sb, 4, none⟩ = some (.pointer (some ⟨fb, 0, none⟩)) := by rw [cell_blk h.blk]; simp [hfb]
    clear h
    go_enter Try.func70, Try.ntmps70
    go_wp2_with (go_at_call 110; refine (step_zero _ _ hF).mono ?_; rintro e w' ⟨rfl, rfl⟩)
    exact ⟨rfl, rfl, rfl⟩

end Go.Proofs.Ytgnigkghkldcfaa
