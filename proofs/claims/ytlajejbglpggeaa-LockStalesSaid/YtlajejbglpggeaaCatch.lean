/-
  guard.Catch: a function run under a fuse: whether it blew. Over whatever the function's own call comes to, if it returns or blows by that fuse.
-/
import Derived.Test.YtlajejbglpggeaaBase0
import Derived.Test.YtlajejbglpggeaaObj0
import Derived.Defers
import Derived.Recover
import Derived.Laws.Pointers
import Derived.LaidEql
namespace Go.Proofs.Ytlajejbglpggeaa
open Go.RowKit Go.Proofs

theorem info_fuse : (Try.prog.info? 116).isSome = true := by kernel_rfl
theorem info_some {o : Option TypeInfo} (h : o.isSome = true) : ∃ j, o = some j := Option.isSome_iff_exists.1 h
theorem neq_same {P : Program} {tp te : TypeId} {j : TypeInfo} (a : Addr) (hp : P.underlying tp = some (.pointer te)) (hte : P.info? te = some j) (w : World) : (binOp .neq tp (.pointer (some a)) (.pointer (some a))).run P w = .ok (.bool false) w := by
  have h : ∀ d : Nat, (Op.equalIn (d + 1) tp (.pointer (some a)) (.pointer (some a))).run P w = .ok true w := fun d => by
    simp [Op.equalIn, run_underlying hp, sizeOf, typeInfo, hte, run_sameAddr_same]
  simp only [binOp]
  simp [Op.equal, Op.maxDepth, h 9999]

/-- What a call of Catch comes to. -/
def CatchPost (w : World) (R0 R1 : World → Prop) (e : Ending) (w' : World) : Prop :=
  ∃ w1, ((e = .returned (.bool false) ∧ R0 w1) ∨ (e = .returned (.bool true) ∧ R1 w1)) ∧ Keep (fun k => k = w.heap.size + 1) w1 w'

def catchW (w : World) (fb : Nat) : World := (w.alloc (.cells #[.pointer (some ⟨fb, 0, none⟩)] 57)).alloc (.cells #[.bool false] 4)
theorem catchW_keep (w : World) (fb : Nat) : Keep (fun _ => False) w (catchW w fb) := ((Keep.refl _ w).alloc _).alloc _

end Go.Proofs.Ytlajejbglpggeaa
