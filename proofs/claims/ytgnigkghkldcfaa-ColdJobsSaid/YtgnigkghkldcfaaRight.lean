/-
  object.right: whether a text is a name.
-/
import Derived.Test.YtgnigkghkldcfaaObj
import Derived.Test.YtgnigkghkldcfaaShelf
import Derived.Test.YtgnigkghkldcfaaNameLaw
namespace Go.Proofs.Ytgnigkghkldcfaa
open Go.RowKit Go.Proofs Go.Lib

theorem right1_pred (w : World) : PredAt Try.prog 112 #[] encR badRune w := fun W r _ => by
  unfold FnGives
  by_cases h1 : r < 33 <;> by_cases h2 : 126 < r
  all_goals
    have z1 : (r : Int) < 33 ↔ r < 33 := by omega
    have z2 : (126 : Int) < (r : Int) ↔ 126 < r := by omega
    go_enter Try.func112, Try.ntmps112
    go_wp2
    all_goals first | (exfalso; omega) | (go_ret; exact ⟨by simp [badRune, h1, h2], 0, rfl⟩)

def rightCode (s : ByteArray) : Int := if nameOK s.data.toList then 0 else 37

def RightPost (s : ByteArray) (w : World) (e : Ending) (w' : World) : Prop := e = .returned (.int .i64 (rightCode s)) ∧ Below w.heap.size w w'

theorem right_any (s : ByteArray) (w : World) : Calls Try.prog 73 #[.string s] w (RightPost s w) := by
  have hC := Try.strings_ContainsFunc 112 #[] (enters_of Try.func112 (by kernel_rfl) rfl) badRune s w (right1_pred w)
  rw [idx_name] at hC
  have hsz : s.data.toList.length = s.size := by simp
  obtain ⟨b, hb⟩ : ∃ b, b = s.data.toList.any badByte := ⟨_, rfl⟩
  rw [← hb] at hC
  have hn : nameOK s.data.toList = (decide (1 ≤ s.size) && decide (s.size ≤ 80) && !b) := by
    unfold nameOK
    rw [hsz, hb, List.all_eq_not_any_not]
    simp
  by_cases h0 : s.size = 0
  · have : s = ⟨#[]⟩ := by
      cases s with | mk d => exact congrArg ByteArray.mk (Array.eq_empty_of_size_eq_zero h0)
    have H := Lib.hid hn; clear hn hb hsz h0 hC
    subst this
    go_enter Try.func73, Try.ntmps73
    go_wp2
    go_ret
    exact ⟨by rw [rightCode]; rfl, Below.refl _ _⟩
  · have h0' : s.toList.isEmpty = false := by
      rw [Lib.toList_data]
      cases hl : s.data.toList with
      | nil => rw [hl] at hsz; exact absurd hsz.symm h0
      | cons x r => rfl
    by_cases h1 : s.size ≤ 80
    · have h1' : ¬ (80 : Int) < s.size := by omega
      have H := Lib.hid hn; clear hn hb hsz
      have HC := Lib.hid hC; clear hC
      cases b
      all_goals
        go_enter Try.func73, Try.ntmps73
        go_wp2_with (go_at_call 111; refine HC.out.mono ?_; rintro e w' ⟨rfl, hbl⟩)
        go_ret
        refine ⟨?_, hbl⟩
        rw [rightCode, H.out, decide_eq_true (by omega : 1 ≤ s.size), decide_eq_true h1]
        rfl
    · have h1' : (80 : Int) < s.size := by omega
      have H := Lib.hid hn; clear hn hb hsz hC
      go_enter Try.func73, Try.ntmps73
      go_wp2
      go_ret
      refine ⟨?_, Below.refl _ _⟩
      rw [rightCode, H.out, decide_eq_false h1]
      simp
end Go.Proofs.Ytgnigkghkldcfaa
