/-
  coldstorelaw07.ColdJobs returns true for every input, and its arguments read as they did. No condition.
-/
import Derived.Test.YtgnigkghkldcfaaRows
import Derived.Test.YtgnigkghkldcfaaJobs4
import Derived.Test.YtgnigkghkldcfaaOpenOps7
import Derived.Test.YtgnigkghkldcfaaFrame
import Derived.ProofKit
import Derived.OpenShut
import Derived.ChangeMaps5
namespace Go.Proofs.Ytgnigkghkldcfaa
open Go.ChangeShapes Go.WideShapes Go.ChangeAt Go.RowKit Go.ChangeMaps

set_option maxHeartbeats 1600000 in
set_option maxRecDepth 100000 in
theorem coldJobs_lifted (os : Os) (started : os.Started) (H : Type) (enc : TypeId × Value → H) :
    ReturnsInHanded {} Try.checked os 8 .any (Rows.coldJobsSpec.pre6 enc Try.prog Try.f8 Rows.coldJobsRow.domain false) (Rows.coldJobsSpec.post enc Try.prog Try.f8 false true false false) := by
  refine returnsInHanded_of_change (C := Try.checked) own started (by kernel_rfl) Try.func8
    (ChangeSpec.witness6 (enc := enc) (C := Try.checked) false ⟨#[], #[.agg #[.int .i64 0, .int .i64 0, .int .i64 0, .int .i64 0, .int .i64 0, .slice none 0 0], .slice none 0 0], []⟩ 8 (by kernel_rfl) (by kernel_rfl) (by kernel_rfl) (by kernel_rfl)) ?_
  intro W base args ds gs before hval0 hW _ _
  have hval : ∀ (j : Nat) t v, Try.f8.params[j]? = some t → args[j]? = some v → Value.okWide Try.prog W .any base t v := hval0
  have hW' := hW
  obtain ⟨p, q, hA0, hV, rfl, _, _⟩ := hW
  have hA : DataW.TrodAll enc Try.prog W 0 (fun _ => true) true Try.f8.params.toList args.toList ds p := hA0
  rw [Try.params8] at hA hval
  obtain ⟨v0, vs0, d0, ds0, p0, q0, hargs, rfl, rfl, h0, r0⟩ := trodAll_cons hA
  obtain ⟨v1, vs1, d1, ds1, p1, q1, rfl, rfl, rfl, h1, r1⟩ := trodAll_cons r0
  obtain ⟨rfl, rfl, rfl⟩ := trodAll_nil r1
  obtain rfl : args = #[v0, v1] := by cases args; simp_all
  obtain ⟨rfl, rfl⟩ := trodVars_none hV
  obtain ⟨q0, j0, fu0, li0, le0, fv0, fl0, e0, bq0, bj0, bf0, bl0, be0, bs0⟩ := in7_of_trod (hval 0 67 v0 rfl rfl) h0
  subst e0
  have s1 := okWide_slice Try.underlying68 (hval 1 68 v1 rfl rfl)
  obtain ⟨l1, b1, c1⟩ := ops7_of_trod s1 h1
  clear hA0 hval0
  simp only [List.append_nil] at hW'
  have hlt : ∀ x, (x ∈ p0 ∨ x ∈ p1) → x.block < W.heap.size := fun x hx => hW'.lt x (by simpa [List.mem_append, or_assoc] using hx)
  refine (jobs_any q0 j0 fu0 li0 le0 bq0 bj0 bf0 bl0 be0 bs0 b1 c1).mono fun e W' ⟨he, hk⟩ => ?_
  subst he
  have hn := hk.toBelow
  have a0 := Below.trod (t := 67) laidOut (by kernel_rfl) (of_decide_eq_true (by kernel_rfl)) h0 hn (fun x hx => hlt x (.inl hx))
  have a1 := Below.trod (t := 68) laidOut (by kernel_rfl) (of_decide_eq_true (by kernel_rfl)) h1 hn (fun x hx => hlt x (.inr (hx)))
  have hA2 := trodAll_cons_mk a0 (trodAll_cons_mk a1 trodAll_mk0)
  simp only [List.append_nil] at hA2
  exact ⟨_, rfl, _, _, _, [], _, [], hW', trodAll_mk1 (shut_bool Try.underlying4 _), hA2, rfl, hn.frame _, fun h => by cases h⟩

/-- ████ THE STATEMENT ████ -/
theorem coldJobs_holds : Rows.ColdJobsSaid :=
  OpenClaim.holds_of_wide 8 Try.f8 rfl rfl rfl rfl rfl rfl rfl ⟨rfl, rfl, rfl, rfl, rfl⟩ rfl rfl rfl rfl rfl (by kernel_rfl) Try.func8 (by kernel_rfl)
    (of_decide_eq_true (by kernel_rfl)) (by unfold Func.isWrapper; first | (rw [if_pos (by decide +kernel)]; kernel_rfl) | (rw [if_neg (by decide +kernel)]; exact ⟨rfl, rfl⟩))
    (fun os started H enc _ => coldJobs_lifted os started H enc)

#print axioms coldJobs_holds
end Go.Proofs.Ytgnigkghkldcfaa
