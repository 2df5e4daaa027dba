/-
  coldstoreref06.Begins: whether a text begins with another one.
-/
import Derived.Test.YtgnigkghkldcfaaList
import Derived.Lib.Bytes
namespace Go.Proofs.Ytgnigkghkldcfaa
open Go.RowKit Go.Proofs Go.Lib

set_option maxHeartbeats 1000000 in
theorem begins_any (w : World) (s p : ByteArray) :
    Calls Try.prog 34 #[.string s, .string p] w fun e w' => e = .returned (.bool (hasPre s.data.toList p.data.toList)) ∧ w = w' := by
  by_cases h : p.size ≤ s.size
  · have h1 : (p.size : Int) ≤ s.size := by omega
    go_enter Try.func34, Try.ntmps34
    go_wp2
    go_ret
    refine ⟨?_, rfl⟩
    have e : (hasPre s.data.toList p.data.toList) = (s.data.toList.take p.size == p.data.toList) := by
      have := Lib.hasPrefix_of_take s.data.toList p.data.toList
      rw [show p.data.toList.length = p.size from by simp, show s.data.toList.length = s.size from by simp, decide_eq_true h, Bool.true_and] at this
      exact this.symm
    rw [e]
    simp [Array.getD_eq_getD_getElem?]
    rw [Lib.toList_data, Lib.toList_data, Lib.extract_data]
    simp
  · have h1 : ¬ (p.size : Int) ≤ s.size := by omega
    have h2 : hasPre s.data.toList p.data.toList = false := by
      cases e : hasPre s.data.toList p.data.toList with
      | false => rfl
      | true =>
        unfold hasPre Lib.hasPrefix at e
        rw [List.isPrefixOf_iff_prefix] at e
        have := e.length_le
        simp at this
        omega
    have H2 := Lib.hid h2; clear h2
    go_enter Try.func34, Try.ntmps34
    go_wp2
    go_ret
    exact ⟨by rw [H2.out]; rfl, rfl⟩
end Go.Proofs.Ytgnigkghkldcfaa
