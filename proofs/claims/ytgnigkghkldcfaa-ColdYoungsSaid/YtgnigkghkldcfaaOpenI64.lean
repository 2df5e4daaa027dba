/-
  An argument []int64, read as a list of numbers.
-/
import Derived.Test.YtgnigkghkldcfaaFrame
import Derived.Test.YtgnigkghkldcfaaOpenOps
namespace Go.Proofs.Ytgnigkghkldcfaa
open Go.ChangeShapes Go.WideShapes Go.ChangeAt Go.RowKit Go.Deep

theorem i64s_of_trod {H : Type} {enc : TypeId × Value → H} {w : World} {v : Value} {d : DataW H} {ps : List MemPlace}
    (hv : ∃ a n c, v = .slice a n c) (h : DataW.Trod enc Try.prog w 0 (fun _ => true) true 89 v d ps) : ∃ l : List Int, Sl w 1 v l.length (l.map (.int .i64)) ∧ ∀ x ∈ l, -9223372036854775808 ≤ x ∧ x ≤ 9223372036854775807 := by
  obtain ⟨fuel, hf⟩ := h
  obtain ⟨a0, n0, c0, rfl⟩ := hv
  rcases open_ints Try.underlying89 Try.underlying2 (by kernel_rfl) hf with ⟨hcs, hx⟩ | ⟨a, len', cap', zs, hcs, _, hl, hm, hz, hx, hcell, hwz⟩
  · simp [Value.cells] at hcs
    obtain ⟨rfl, rfl, rfl⟩ := hcs
    exact ⟨[], Sl.nil _ _, fun _ h => (nomatch h)⟩
  · simp [Value.cells] at hcs
    obtain ⟨rfl, rfl, rfl⟩ := hcs
    simp only [if_true] at hz
    have hlen : (zs.take n0).length = n0 := by simp; omega
    refine ⟨zs.take n0, ⟨by simp, some a, c0, by rw [hlen], by rw [hlen]; omega, hm, (fun e => by cases e), fun hn => ?_⟩, fun x hx => wf_i64 (hwz x (List.mem_of_mem_take hx))⟩
    have hn0 : 0 < n0 := by rw [hlen] at hn; omega
    have h0 := hcell 0 (by omega)
    have hspot : a.spot = none := by simpa [Addr.add] using World.cell?_spot h0
    obtain ⟨b, o, sp⟩ := a
    simp only at hspot
    subst hspot
    refine ⟨b, o, rfl, fun j hj => ?_⟩
    have hj' : j < n0 := by rw [hlen] at hj; omega
    have hcj := hcell j (by omega)
    rw [add_plain] at hcj
    rw [hcj]
    have hjz : j < zs.length := by omega
    simp [hj', hjz]
end Go.Proofs.Ytgnigkghkldcfaa
