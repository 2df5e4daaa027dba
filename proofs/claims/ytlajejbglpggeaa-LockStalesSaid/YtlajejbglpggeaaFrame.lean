/-
  The statements' frame: an argument of bytes read as a list; what a law's end leaves.
-/
import Derived.Test.YtlajejbglpggeaaRows
import Derived.Test.YtlajejbglpggeaaConv
import Derived.ProofKit
namespace Go.Proofs.Ytlajejbglpggeaa
open Go.ChangeShapes Go.WideShapes Go.ChangeAt Go.RowKit

theorem own : ownKnob Try.prog.godebug = none := by kernel_rfl
theorem laidOut : laidOutB Try.prog = true := by kernel_rfl

theorem Keep.toBelow {w w' : World} (h : Keep (fun _ => False) w w') : Below w.heap.size w w' := h.below (fun _ _ e => e) (Nat.le_refl _)

theorem wf_u8 {n : Int} (h : (Lit.int .u8 n).wf = true) : ((UInt8.ofNat n.toNat).toNat : Int) = n := by
  have h1 : IntKind.u8.min = 0 := rfl
  have h2 : IntKind.u8.max = 255 := rfl
  simp only [Lit.wf, Bool.and_eq_true, decide_eq_true_eq] at h
  rw [h1, h2] at h
  simp
  omega

theorem wf_i64 {n : Int} (h : (Lit.int .i64 n).wf = true) : -9223372036854775808 ≤ n ∧ n ≤ 9223372036854775807 := by
  have h1 : IntKind.i64.min = -9223372036854775808 := rfl
  have h2 : IntKind.i64.max = 9223372036854775807 := rfl
  simp only [Lit.wf, Bool.and_eq_true, decide_eq_true_eq] at h
  rw [h1, h2] at h
  exact h

theorem bytes_of_trod {H : Type} {enc : TypeId × Value → H} {P : Program} {t e : TypeId} {w : World} {v : Value} {d : DataW H} {ps : List MemPlace} (ht : P.underlying t = some (.slice e)) (he : P.underlying e = some (.int .u8)) (hc : P.cellsOf e = 1)
    (hv : ∃ a n c, v = .slice a n c) (h : DataW.Trod enc P w 0 (fun _ => true) true t v d ps) : ∃ l, BytesAt w v l := by
  obtain ⟨fuel, hf⟩ := h
  obtain ⟨a0, n0, c0, rfl⟩ := hv
  rcases open_ints ht he hc hf with ⟨hcs, hx⟩ | ⟨a, len', cap', zs, hcs, _, hl, hm, hz, hx, hcell, hwz⟩
  · simp [Value.cells] at hcs
    obtain ⟨rfl, rfl, rfl⟩ := hcs
    exact ⟨[], Sl.nil _ _⟩
  · simp [Value.cells] at hcs
    obtain ⟨rfl, rfl, rfl⟩ := hcs
    simp only [if_true] at hz
    have hlen : (zs.take n0).length = n0 := by simp; omega
    refine ⟨(zs.take n0).map fun n => UInt8.ofNat n.toNat, by simp [bytesV], some a, c0, by simp; omega, by simp; omega, hm, (fun e => by cases e), fun hn => ?_⟩
    have hn0 : 0 < n0 := by simp at hn; omega
    have h0 := hcell 0 (by omega)
    have hspot : a.spot = none := by simpa [Addr.add] using World.cell?_spot h0
    obtain ⟨b, o, sp⟩ := a
    simp only at hspot
    subst hspot
    refine ⟨b, o, rfl, fun j hj => ?_⟩
    have hj' : j < n0 := by simp at hj; omega
    have hcj := hcell j (by omega)
    have hplain : (⟨b, o, none⟩ : Addr).add j = ⟨b, o + j, none⟩ := by unfold Addr.add; split <;> simp_all
    rw [hplain] at hcj
    rw [hcj]
    have hjz : j < zs.length := by omega
    have hw := wf_u8 (hwz zs[j] (List.getElem_mem hjz))
    simp [bytesV, hj', hjz]
    simp at hw
    omega
end Go.Proofs.Ytlajejbglpggeaa
