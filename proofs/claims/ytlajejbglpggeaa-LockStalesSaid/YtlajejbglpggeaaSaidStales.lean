/-
  coldstorelaw15.LockStales returns true for every input, and its arguments read as they did. No condition.
-/
import Derived.Test.YtlajejbglpggeaaRows
import Derived.Test.YtlajejbglpggeaaLk15
import Derived.Test.YtlajejbglpggeaaFrame
import Derived.ProofKit
import Derived.OpenShut
import Derived.ChangeMaps5
namespace Go.Proofs.Ytlajejbglpggeaa
open Go.ChangeShapes Go.WideShapes Go.ChangeAt Go.RowKit Go.ChangeMaps

set_option maxHeartbeats 1600000 in
set_option maxRecDepth 100000 in
theorem lockStales_lifted (os : Os) (started : os.Started) (H : Type) (enc : TypeId × Value → H) :
    ReturnsInHanded {} Try.checked os 5 .any (Rows.lockStalesSpec.pre6 enc Try.prog Try.f5 Rows.lockStalesRow.domain false) (Rows.lockStalesSpec.post enc Try.prog Try.f5 false true false false) := by
  refine returnsInHanded_of_change (C := Try.checked) own started (by kernel_rfl) Try.func5
    (ChangeSpec.witness6 (enc := enc) (C := Try.checked) false ⟨#[], #[.int .u64 0, .int .u64 0, .int .i64 0, .int .i64 0], []⟩ 8 (by kernel_rfl) (by kernel_rfl) (by kernel_rfl) (by kernel_rfl)) ?_
  intro W base args ds gs before hval0 hW _ _
  have hval : ∀ (j : Nat) t v, Try.f5.params[j]? = some t → args[j]? = some v → Value.okWide Try.prog W .any base t v := hval0
  have hW' := hW
  obtain ⟨p, q, hA0, hV, rfl, _, _⟩ := hW
  have hA : DataW.TrodAll enc Try.prog W 0 (fun _ => true) true Try.f5.params.toList args.toList ds p := hA0
  rw [Try.params5] at hA hval
  obtain ⟨v0, vs0, d0, ds0, p0, q0, hargs, rfl, rfl, h0, r0⟩ := trodAll_cons hA
  obtain ⟨v1, vs1, d1, ds1, p1, q1, rfl, rfl, rfl, h1, r1⟩ := trodAll_cons r0
  obtain ⟨v2, vs2, d2, ds2, p2, q2, rfl, rfl, rfl, h2, r2⟩ := trodAll_cons r1
  obtain ⟨v3, vs3, d3, ds3, p3, q3, rfl, rfl, rfl, h3, r3⟩ := trodAll_cons r2
  obtain ⟨rfl, rfl, rfl⟩ := trodAll_nil r3
  obtain rfl : args = #[v0, v1, v2, v3] := by cases args; simp_all
  obtain ⟨rfl, rfl⟩ := trodVars_none hV
  obtain ⟨n0, e0, _, _, u0⟩ := open_int Try.underlying22 (hval 0 22 v0 rfl rfl) h0
  subst e0
  obtain ⟨m0, b0, c0⟩ := wf_u64 u0
  subst b0
  obtain ⟨n1, e1, _, _, u1⟩ := open_int Try.underlying22 (hval 1 22 v1 rfl rfl) h1
  subst e1
  obtain ⟨m1, b1, c1⟩ := wf_u64 u1
  subst b1
  obtain ⟨n2, e2, _, _, u2⟩ := open_int Try.underlying2 (hval 2 2 v2 rfl rfl) h2
  subst e2
  have b2 := wf_i64 u2
  obtain ⟨n3, e3, _, _, u3⟩ := open_int Try.underlying2 (hval 3 2 v3 rfl rfl) h3
  subst e3
  have b3 := wf_i64 u3
  clear hA0 hval0
  simp only [List.append_nil] at hW'
  have hlt : ∀ x, (x ∈ p0 ∨ x ∈ p1 ∨ x ∈ p2 ∨ x ∈ p3) → x.block < W.heap.size := fun x hx => hW'.lt x (by simpa [List.mem_append, or_assoc] using hx)
  refine (stales_at m0 c0 m1 c1 n2 b2 n3 b3).mono fun e W' ⟨he, hk⟩ => ?_
  subst he
  have hn := hk.toBelow
  have a0 := Below.trod (t := 22) laidOut (by kernel_rfl) (of_decide_eq_true (by kernel_rfl)) h0 hn (fun x hx => hlt x (.inl hx))
  have a1 := Below.trod (t := 22) laidOut (by kernel_rfl) (of_decide_eq_true (by kernel_rfl)) h1 hn (fun x hx => hlt x (.inr (.inl hx)))
  have a2 := Below.trod (t := 2) laidOut (by kernel_rfl) (of_decide_eq_true (by kernel_rfl)) h2 hn (fun x hx => hlt x (.inr (.inr (.inl hx))))
  have a3 := Below.trod (t := 2) laidOut (by kernel_rfl) (of_decide_eq_true (by kernel_rfl)) h3 hn (fun x hx => hlt x (.inr (.inr (.inr (hx)))))
  have hA2 := trodAll_cons_mk a0 (trodAll_cons_mk a1 (trodAll_cons_mk a2 (trodAll_cons_mk a3 trodAll_mk0)))
  simp only [List.append_nil] at hA2
  exact ⟨_, rfl, _, _, _, [], _, [], hW', trodAll_mk1 (shut_bool Try.underlying4 _), hA2, rfl, hn.frame _, fun h => by cases h⟩

/-- ████ THE STATEMENT ████ -/
theorem lockStales_holds : Rows.LockStalesSaid :=
  OpenClaim.holds_of_wide 5 Try.f5 rfl rfl rfl rfl rfl rfl rfl ⟨rfl, rfl, rfl, rfl, rfl⟩ rfl rfl rfl rfl rfl (by kernel_rfl) Try.func5 (by kernel_rfl)
    (of_decide_eq_true (by kernel_rfl)) (by unfold Func.isWrapper; first | (rw [if_pos (by decide +kernel)]; kernel_rfl) | (rw [if_neg (by decide +kernel)]; exact ⟨rfl, rfl⟩))
    (fun os started H enc _ => lockStales_lifted os started H enc)

#print axioms lockStales_holds
end Go.Proofs.Ytlajejbglpggeaa
