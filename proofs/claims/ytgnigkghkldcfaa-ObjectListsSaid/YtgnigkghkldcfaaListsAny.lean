/-
  coldstorelaw06.ObjectLists: true, whether the steps are few, and the beginning short, or not.
-/
import Derived.Test.YtgnigkghkldcfaaLists
namespace Go.Proofs.Ytgnigkghkldcfaa
open Go.RowKit Go.Proofs Go.Lib

set_option maxRecDepth 100000 in
set_option maxHeartbeats 4000000 in
theorem lists_long {w : World} {v : Value} {L : List (Op6 × Value)} (hO : OpsAt w v L) (p : ByteArray) (h : fewB (L.map (·.1)) = false ∨ ¬ p.size ≤ 100) :
    Calls Try.prog 5 #[v, .string p] w fun e w' => e = .returned (.bool true) ∧ Keep (fun _ => False) w w' := by
  have HO := Lib.hid hO
  obtain ⟨va, vc, rfl⟩ : ∃ p k, v = .slice p L.length k := let ⟨_, p, k, e, _⟩ := hO.row; ⟨p, k, e⟩
  clear hO
  obtain ⟨f, hf⟩ : ∃ f, fewB (L.map (·.1)) = f := ⟨_, rfl⟩
  rw [hf] at h
  have HF := Lib.hid hf; clear hf
  cases f
  · clear h
    go_enter Try.func5, Try.ntmps5
    go_wp2_with fail
    refine (alive_any w).mono ?_
    rintro e w1 ⟨rfl, k1⟩
    go_wp2_with fail
    refine (few_any (HO.out.keep k1 (fun _ _ e => e))).mono ?_
    rintro e w2 ⟨rfl, k2⟩
    rw [HF.out]
    go_wp2
    go_ret
    exact ⟨rfl, k1.trans k2⟩
  · have hp : ¬ (p.size : Int) ≤ 100 := by
      rcases h with h | h
      · cases h
      · omega
    clear h
    go_enter Try.func5, Try.ntmps5
    go_wp2_with fail
    refine (alive_any w).mono ?_
    rintro e w1 ⟨rfl, k1⟩
    go_wp2_with fail
    refine (few_any (HO.out.keep k1 (fun _ _ e => e))).mono ?_
    rintro e w2 ⟨rfl, k2⟩
    rw [HF.out]
    go_wp2
    go_ret
    exact ⟨rfl, k1.trans k2⟩

theorem lists_any {w : World} {v : Value} {L : List (Op6 × Value)} (hO : OpsAt w v L) (_hk : ∀ p ∈ L, -9223372036854775808 ≤ p.1.kind ∧ p.1.kind ≤ 9223372036854775807) (p : ByteArray) (_hp : p.size ≤ maxLen) :
    Calls Try.prog 5 #[v, .string p] w fun e w' => e = .returned (.bool true) ∧ Keep (fun _ => False) w w' := by
  by_cases h : fewB (L.map (·.1)) = true ∧ p.size ≤ 100
  · exact lists_short hO h.1 p h.2
  · refine lists_long hO p ?_
    by_cases hf : fewB (L.map (·.1)) = true
    · exact .inr (fun e => h ⟨hf, e⟩)
    · exact .inl (by simpa using hf)
end Go.Proofs.Ytgnigkghkldcfaa
