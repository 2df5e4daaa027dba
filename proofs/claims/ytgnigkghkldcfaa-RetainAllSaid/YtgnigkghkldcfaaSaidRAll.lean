/-
  coldstorelaw19.RetainAll returns true for every input, and its arguments read as they did. No condition.
-/
import Derived.Test.YtgnigkghkldcfaaRows
import Derived.Test.YtgnigkghkldcfaaRAll
import Derived.Test.YtgnigkghkldcfaaOpenSnaps
import Derived.Test.YtgnigkghkldcfaaFrame
import Derived.ProofKit
import Derived.OpenShut
import Derived.ChangeMaps5
namespace Go.Proofs.Ytgnigkghkldcfaa
open Go.ChangeShapes Go.WideShapes Go.ChangeAt Go.RowKit Go.ChangeMaps

set_option maxHeartbeats 1600000 in
set_option maxRecDepth 100000 in
theorem retainAll_lifted (os : Os) (started : os.Started) (H : Type) (enc : TypeId × Value → H) :
    ReturnsInHanded {} Try.checked os 15 .any (Rows.retainAllSpec.pre6 enc Try.prog Try.f15 Rows.retainAllRow.domain false) (Rows.retainAllSpec.post enc Try.prog Try.f15 false true false false) := by
  refine returnsInHanded_of_change (C := Try.checked) own started (by kernel_rfl) Try.func15
    (ChangeSpec.witness6 (enc := enc) (C := Try.checked) false ⟨#[], #[.slice none 0 0, .int .i64 0], []⟩ 8 (by kernel_rfl) (by kernel_rfl) (by kernel_rfl) (by kernel_rfl)) ?_
  intro W base args ds gs before hval0 hW _ _
  have hval : ∀ (j : Nat) t v, Try.f15.params[j]? = some t → args[j]? = some v → Value.okWide Try.prog W .any base t v := hval0
  have hW' := hW
  obtain ⟨p, q, hA0, hV, rfl, _, _⟩ := hW
  have hA : DataW.TrodAll enc Try.prog W 0 (fun _ => true) true Try.f15.params.toList args.toList ds p := hA0
  rw [Try.params15] at hA hval
  obtain ⟨v0, vs0, d0, ds0, p0, q0, hargs, rfl, rfl, h0, r0⟩ := trodAll_cons hA
  obtain ⟨v1, vs1, d1, ds1, p1, q1, rfl, rfl, rfl, h1, r1⟩ := trodAll_cons r0
  obtain ⟨rfl, rfl, rfl⟩ := trodAll_nil r1
  obtain rfl : args = #[v0, v1] := by cases args; simp_all
  obtain ⟨rfl, rfl⟩ := trodVars_none hV
  have s0 := okWide_slice Try.underlying93 (hval 0 93 v0 rfl rfl)
  obtain ⟨l0, b0, c0⟩ := snaps_of_trod s0 h0
  obtain ⟨n1, e1, _, _, u1⟩ := open_int Try.underlying2 (hval 1 2 v1 rfl rfl) h1
  subst e1
  have b1 := wf_i64 u1
  clear hA0 hval0
  simp only [List.append_nil] at hW'
  have hlt : ∀ x, (x ∈ p0 ∨ x ∈ p1) → x.block < W.heap.size := fun x hx => hW'.lt x (by simpa [List.mem_append, or_assoc] using hx)
  refine (rall_any b0 c0 n1 b1).mono fun e W' ⟨he, hk⟩ => ?_
  subst he
  have hn := hk.toBelow
  have a0 := Below.trod (t := 93) laidOut (by kernel_rfl) (of_decide_eq_true (by kernel_rfl)) h0 hn (fun x hx => hlt x (.inl hx))
  have a1 := Below.trod (t := 2) laidOut (by kernel_rfl) (of_decide_eq_true (by kernel_rfl)) h1 hn (fun x hx => hlt x (.inr (hx)))
  have hA2 := trodAll_cons_mk a0 (trodAll_cons_mk a1 trodAll_mk0)
  simp only [List.append_nil] at hA2
  exact ⟨_, rfl, _, _, _, [], _, [], hW', trodAll_mk1 (shut_bool Try.underlying4 _), hA2, rfl, hn.frame _, fun h => by cases h⟩

/-- ████ THE STATEMENT ████ -/
theorem retainAll_holds : Rows.RetainAllSaid :=
  OpenClaim.holds_of_wide 15 Try.f15 rfl rfl rfl rfl rfl rfl rfl ⟨rfl, rfl, rfl, rfl, rfl⟩ rfl rfl rfl rfl rfl (by kernel_rfl) Try.func15 (by kernel_rfl)
    (of_decide_eq_true (by kernel_rfl)) (by unfold Func.isWrapper; first | (rw [if_pos (by decide +kernel)]; kernel_rfl) | (rw [if_neg (by decide +kernel)]; exact ⟨rfl, rfl⟩))
    (fun os started H enc _ => retainAll_lifted os started H enc)

#print axioms retainAll_holds
end Go.Proofs.Ytgnigkghkldcfaa
