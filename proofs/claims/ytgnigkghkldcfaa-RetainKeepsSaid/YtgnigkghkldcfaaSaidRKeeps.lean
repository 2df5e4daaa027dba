/-
  coldstorelaw19.RetainKeeps returns true for every input, and its arguments read as they did. No condition.
-/
import Derived.Test.YtgnigkghkldcfaaRows
import Derived.Test.YtgnigkghkldcfaaRKeeps
import Derived.Test.YtgnigkghkldcfaaOpenSnaps
import Derived.Test.YtgnigkghkldcfaaFrame
import Derived.ProofKit
import Derived.OpenShut
import Derived.ChangeMaps5
namespace Go.Proofs.Ytgnigkghkldcfaa
open Go.ChangeShapes Go.WideShapes Go.ChangeAt Go.RowKit Go.ChangeMaps

set_option maxHeartbeats 1600000 in
set_option maxRecDepth 100000 in
theorem retainKeeps_lifted (os : Os) (started : os.Started) (H : Type) (enc : TypeId × Value → H) :
    ReturnsInHanded {} Try.checked os 11 .any (Rows.retainKeepsSpec.pre6 enc Try.prog Try.f11 Rows.retainKeepsRow.domain false) (Rows.retainKeepsSpec.post enc Try.prog Try.f11 false true false false) := by
  refine returnsInHanded_of_change (C := Try.checked) own started (by kernel_rfl) Try.func11
    (ChangeSpec.witness6 (enc := enc) (C := Try.checked) false ⟨#[], #[.slice none 0 0, .agg #[.int .i64 0, .int .i64 0, .int .i64 0, .int .i64 0, .string ⟨#[]⟩], .int .i64 0], []⟩ 8 (by kernel_rfl) (by kernel_rfl) (by kernel_rfl) (by kernel_rfl)) ?_
  intro W base args ds gs before hval0 hW _ _
  have hval : ∀ (j : Nat) t v, Try.f11.params[j]? = some t → args[j]? = some v → Value.okWide Try.prog W .any base t v := hval0
  have hW' := hW
  obtain ⟨p, q, hA0, hV, rfl, _, _⟩ := hW
  have hA : DataW.TrodAll enc Try.prog W 0 (fun _ => true) true Try.f11.params.toList args.toList ds p := hA0
  rw [Try.params11] at hA hval
  obtain ⟨v0, vs0, d0, ds0, p0, q0, hargs, rfl, rfl, h0, r0⟩ := trodAll_cons hA
  obtain ⟨v1, vs1, d1, ds1, p1, q1, rfl, rfl, rfl, h1, r1⟩ := trodAll_cons r0
  obtain ⟨v2, vs2, d2, ds2, p2, q2, rfl, rfl, rfl, h2, r2⟩ := trodAll_cons r1
  obtain ⟨rfl, rfl, rfl⟩ := trodAll_nil r2
  obtain rfl : args = #[v0, v1, v2] := by cases args; simp_all
  obtain ⟨rfl, rfl⟩ := trodVars_none hV
  have s0 := okWide_slice Try.underlying93 (hval 0 93 v0 rfl rfl)
  obtain ⟨l0, b0, c0⟩ := snaps_of_trod s0 h0
  obtain ⟨n1, e1, ba1, bb1, bc1, bd1⟩ := policy_of_trod (hval 1 95 v1 rfl rfl) h1
  subst e1
  obtain ⟨n2, e2, _, _, u2⟩ := open_int Try.underlying3 (hval 2 3 v2 rfl rfl) h2
  subst e2
  have b2 := wf_i64 u2
  clear hA0 hval0
  simp only [List.append_nil] at hW'
  have hlt : ∀ x, (x ∈ p0 ∨ x ∈ p1 ∨ x ∈ p2) → x.block < W.heap.size := fun x hx => hW'.lt x (by simpa [List.mem_append, or_assoc] using hx)
  refine (rkeeps_any b0 c0 n1 ba1 bb1 bc1 bd1 n2 b2).mono fun e W' ⟨he, hk⟩ => ?_
  subst he
  have hn := hk.toBelow
  have a0 := Below.trod (t := 93) laidOut (by kernel_rfl) (of_decide_eq_true (by kernel_rfl)) h0 hn (fun x hx => hlt x (.inl hx))
  have a1 := Below.trod (t := 95) laidOut (by kernel_rfl) (of_decide_eq_true (by kernel_rfl)) h1 hn (fun x hx => hlt x (.inr (.inl hx)))
  have a2 := Below.trod (t := 3) laidOut (by kernel_rfl) (of_decide_eq_true (by kernel_rfl)) h2 hn (fun x hx => hlt x (.inr (.inr (hx))))
  have hA2 := trodAll_cons_mk a0 (trodAll_cons_mk a1 (trodAll_cons_mk a2 trodAll_mk0))
  simp only [List.append_nil] at hA2
  exact ⟨_, rfl, _, _, _, [], _, [], hW', trodAll_mk1 (shut_bool Try.underlying4 _), hA2, rfl, hn.frame _, fun h => by cases h⟩

/-- ████ THE STATEMENT ████ -/
theorem retainKeeps_holds : Rows.RetainKeepsSaid :=
  OpenClaim.holds_of_wide 11 Try.f11 rfl rfl rfl rfl rfl rfl rfl ⟨rfl, rfl, rfl, rfl, rfl⟩ rfl rfl rfl rfl rfl (by kernel_rfl) Try.func11 (by kernel_rfl)
    (of_decide_eq_true (by kernel_rfl)) (by unfold Func.isWrapper; first | (rw [if_pos (by decide +kernel)]; kernel_rfl) | (rw [if_neg (by decide +kernel)]; exact ⟨rfl, rfl⟩))
    (fun os started H enc _ => retainKeeps_lifted os started H enc)

#print axioms retainKeeps_holds
end Go.Proofs.Ytgnigkghkldcfaa
