/-
  Contracts of package guard: Step, NewFuse, Left. No condition beyond what a fuse's block holds.
-/
import Derived.Test.YtlajejbglpggeaaProg
import Derived.Test.YtlajejbglpggeaaBase0
namespace Go.Proofs.Ytlajejbglpggeaa
open Go.RowKit Go.Proofs

/-- Block fb is a fuse with n steps left. -/
def FuseAt (w : World) (fb : Nat) (n : Int) : Prop := w.heap[fb]? = some (.cells #[.int .i64 n] 116 (0, 0)) ∧ -1 ≤ n ∧ n ≤ 9223372036854775807

def decF (n : Int) : Int := if 0 < n then n - 1 else n

theorem FuseAt.keep {F : Nat → Prop} {w w' : World} {fb : Nat} {n : Int} (h : FuseAt w fb n) (k : Keep F w w') (hF : ¬ F fb) : FuseAt w' fb n := ⟨k.heap h.1 hF, h.2⟩

def blowChain (fb : Nat) : List PanicEntry := [{ v := .iface 118 (.agg #[.pointer (some ⟨fb, 0, none⟩)]), recovered := false }]

theorem step_zero (fb : Nat) (w : World) (h : FuseAt w fb 0) :
    Calls Try.prog 61 #[.pointer (some ⟨fb, 0, none⟩)] w fun e w' => e = .panicked (blowChain fb) ∧ w = w' := by
  have hc : w.cell? ⟨fb, 0, none⟩ = some (.int .i64 0) := by rw [cell_blk h.1]; rfl
  clear h
  go_enter Try.func61, Try.ntmps61
  go_wp2
  exact ⟨rfl, rfl, rfl⟩

theorem step_go (fb : Nat) (n : Int) (w : World) (h : FuseAt w fb n) (hn : n ≠ 0) :
    Calls Try.prog 61 #[.pointer (some ⟨fb, 0, none⟩)] w fun e w' => e = .returned (.tuple #[]) ∧ FuseAt w' fb (decF n) ∧ Keep (· = fb) w w' := by
  have hc : w.cell? ⟨fb, 0, none⟩ = some (.int .i64 n) := by rw [cell_blk h.1]; rfl
  have hf : w.frozen? ⟨fb, 0, none⟩ = false := frozen_blk h.1 0
  have h0 : (n == 0) = false := by simpa using hn
  obtain ⟨hb, h1, h2⟩ := h
  rcases Int.lt_or_lt_of_ne hn with hlt | hlt
  · have H := Lib.hid hb; clear hb hn
    go_enter Try.func61, Try.ntmps61
    go_wp2
    go_end0
    exact ⟨rfl, by rw [decF, if_neg (by omega)]; exact ⟨H.out, h1, h2⟩, Keep.refl _ _⟩
  · have H := Lib.hid hb; clear hb hn
    go_enter Try.func61, Try.ntmps61
    go_wp2
    go_end0
    refine ⟨rfl, ?_, (Keep.refl (· = fb) w).setCell (p := ⟨fb, 0, none⟩) (fun _ => rfl) _⟩
    rw [decF, if_pos hlt]
    exact ⟨by rw [set_blk H.out]; rfl, by omega, by omega⟩

end Go.Proofs.Ytlajejbglpggeaa
