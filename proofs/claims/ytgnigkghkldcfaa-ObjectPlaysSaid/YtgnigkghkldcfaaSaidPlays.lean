/-
  coldstorelaw06.ObjectPlays returns true for every input, and its arguments read as they did. No condition.
-/
import Derived.Test.YtgnigkghkldcfaaRows
import Derived.Test.YtgnigkghkldcfaaPlays
import Derived.Test.YtgnigkghkldcfaaOpenOps
import Derived.Test.YtgnigkghkldcfaaFrame
import Derived.ProofKit
import Derived.OpenShut
import Derived.ChangeMaps5
namespace Go.Proofs.Ytgnigkghkldcfaa
open Go.ChangeShapes Go.WideShapes Go.ChangeAt Go.RowKit Go.ChangeMaps

set_option maxHeartbeats 1600000 in
set_option maxRecDepth 100000 in
theorem objectPlays_lifted (os : Os) (started : os.Started) (H : Type) (enc : TypeId × Value → H) :
    ReturnsInHanded {} Try.checked os 3 .any (Rows.objectPlaysSpec.pre6 enc Try.prog Try.f3 Rows.objectPlaysRow.domain false) (Rows.objectPlaysSpec.post enc Try.prog Try.f3 false true false false) := by
  refine returnsInHanded_of_change (C := Try.checked) own started (by kernel_rfl) Try.func3
    (ChangeSpec.witness6 (enc := enc) (C := Try.checked) false ⟨#[], #[.int .i64 0, .int .i64 0, .slice none 0 0, .slice none 0 0, .int .i64 0], []⟩ 8 (by kernel_rfl) (by kernel_rfl) (by kernel_rfl) (by kernel_rfl)) ?_
  intro W base args ds gs before hval0 hW _ _
  have hval : ∀ (j : Nat) t v, Try.f3.params[j]? = some t → args[j]? = some v → Value.okWide Try.prog W .any base t v := hval0
  have hW' := hW
  obtain ⟨p, q, hA0, hV, rfl, _, _⟩ := hW
  have hA : DataW.TrodAll enc Try.prog W 0 (fun _ => true) true Try.f3.params.toList args.toList ds p := hA0
  rw [Try.params3] at hA hval
  obtain ⟨v0, vs0, d0, ds0, p0, q0, hargs, rfl, rfl, h0, r0⟩ := trodAll_cons hA
  obtain ⟨v1, vs1, d1, ds1, p1, q1, rfl, rfl, rfl, h1, r1⟩ := trodAll_cons r0
  obtain ⟨v2, vs2, d2, ds2, p2, q2, rfl, rfl, rfl, h2, r2⟩ := trodAll_cons r1
  obtain ⟨v3, vs3, d3, ds3, p3, q3, rfl, rfl, rfl, h3, r3⟩ := trodAll_cons r2
  obtain ⟨v4, vs4, d4, ds4, p4, q4, rfl, rfl, rfl, h4, r4⟩ := trodAll_cons r3
  obtain ⟨rfl, rfl, rfl⟩ := trodAll_nil r4
  obtain rfl : args = #[v0, v1, v2, v3, v4] := by cases args; simp_all
  obtain ⟨rfl, rfl⟩ := trodVars_none hV
  obtain ⟨n0, e0, _, _, u0⟩ := open_int Try.underlying3 (hval 0 3 v0 rfl rfl) h0
  subst e0
  have b0 := wf_i64 u0
  obtain ⟨n1, e1, _, _, u1⟩ := open_int Try.underlying3 (hval 1 3 v1 rfl rfl) h1
  subst e1
  have b1 := wf_i64 u1
  have s2 := okWide_slice Try.underlying22 (hval 2 22 v2 rfl rfl)
  obtain ⟨l2, b2⟩ := bools_of_trod s2 h2
  have s3 := okWide_slice Try.underlying23 (hval 3 23 v3 rfl rfl)
  obtain ⟨l3, b3, c3⟩ := ops_of_trod s3 h3
  obtain ⟨n4, e4, _, _, u4⟩ := open_int Try.underlying3 (hval 4 3 v4 rfl rfl) h4
  subst e4
  have b4 := wf_i64 u4
  clear hA0 hval0
  simp only [List.append_nil] at hW'
  have hlt : ∀ x, (x ∈ p0 ∨ x ∈ p1 ∨ x ∈ p2 ∨ x ∈ p3 ∨ x ∈ p4) → x.block < W.heap.size := fun x hx => hW'.lt x (by simpa [List.mem_append, or_assoc] using hx)
  refine (plays_any n0 b0 n1 b1 b2 b3 c3 n4 b4).mono fun e W' ⟨he, hk⟩ => ?_
  subst he
  have hn := hk.toBelow
  have a0 := Below.trod (t := 3) laidOut (by kernel_rfl) (of_decide_eq_true (by kernel_rfl)) h0 hn (fun x hx => hlt x (.inl hx))
  have a1 := Below.trod (t := 3) laidOut (by kernel_rfl) (of_decide_eq_true (by kernel_rfl)) h1 hn (fun x hx => hlt x (.inr (.inl hx)))
  have a2 := Below.trod (t := 22) laidOut (by kernel_rfl) (of_decide_eq_true (by kernel_rfl)) h2 hn (fun x hx => hlt x (.inr (.inr (.inl hx))))
  have a3 := Below.trod (t := 23) laidOut (by kernel_rfl) (of_decide_eq_true (by kernel_rfl)) h3 hn (fun x hx => hlt x (.inr (.inr (.inr (.inl hx)))))
  have a4 := Below.trod (t := 3) laidOut (by kernel_rfl) (of_decide_eq_true (by kernel_rfl)) h4 hn (fun x hx => hlt x (.inr (.inr (.inr (.inr (hx))))))
  have hA2 := trodAll_cons_mk a0 (trodAll_cons_mk a1 (trodAll_cons_mk a2 (trodAll_cons_mk a3 (trodAll_cons_mk a4 trodAll_mk0))))
  simp only [List.append_nil] at hA2
  exact ⟨_, rfl, _, _, _, [], _, [], hW', trodAll_mk1 (shut_bool Try.underlying4 _), hA2, rfl, hn.frame _, fun h => by cases h⟩

/-- ████ THE STATEMENT ████ -/
theorem objectPlays_holds : Rows.ObjectPlaysSaid :=
  OpenClaim.holds_of_wide 3 Try.f3 rfl rfl rfl rfl rfl rfl rfl ⟨rfl, rfl, rfl, rfl, rfl⟩ rfl rfl rfl rfl rfl (by kernel_rfl) Try.func3 (by kernel_rfl)
    (of_decide_eq_true (by kernel_rfl)) (by unfold Func.isWrapper; first | (rw [if_pos (by decide +kernel)]; kernel_rfl) | (rw [if_neg (by decide +kernel)]; exact ⟨rfl, rfl⟩))
    (fun os started H enc _ => objectPlays_lifted os started H enc)

#print axioms objectPlays_holds
end Go.Proofs.Ytgnigkghkldcfaa
