/-
  coldstorelaw06.ObjectFuses: true, whether the steps are few or not.
-/
import Derived.Test.YtgnigkghkldcfaaFuses
namespace Go.Proofs.Ytgnigkghkldcfaa
open Go.RowKit Go.Proofs Go.Lib

set_option maxRecDepth 100000 in
set_option maxHeartbeats 4000000 in
theorem fuses_long {w : World} {v : Value} {L : List (Op6 × Value)} (hO : OpsAt w v L) (hf : fewB (L.map (·.1)) = false) (n : Int) :
    Calls Try.prog 7 #[v, .int .i64 n] w fun e w' => e = .returned (.bool true) ∧ Keep (fun _ => False) w w' := by
  have HO := Lib.hid hO
  obtain ⟨va, vc, rfl⟩ : ∃ p k, v = .slice p L.length k := let ⟨_, p, k, e, _⟩ := hO.row; ⟨p, k, e⟩
  clear hO
  have HF := Lib.hid hf; clear hf
  go_enter Try.func7, Try.ntmps7
  go_wp2_with fail
  refine (alive_any w).mono ?_
  rintro e w1 ⟨rfl, k1⟩
  go_wp2_with fail
  refine (few_any (HO.out.keep k1 (fun _ _ e => e))).mono ?_
  rintro e w2 ⟨rfl, k2⟩
  rw [HF.out]
  go_wp2
  go_ret
  exact ⟨rfl, k1.trans k2⟩

theorem fuses_any {w : World} {v : Value} {L : List (Op6 × Value)} (hO : OpsAt w v L) (_hk : ∀ p ∈ L, -9223372036854775808 ≤ p.1.kind ∧ p.1.kind ≤ 9223372036854775807) (n : Int) (hn : -9223372036854775808 ≤ n ∧ n ≤ 9223372036854775807) :
    Calls Try.prog 7 #[v, .int .i64 n] w fun e w' => e = .returned (.bool true) ∧ Keep (fun _ => False) w w' := by
  cases hf : fewB (L.map (·.1))
  · exact fuses_long hO hf n
  · exact fuses_short hO hf n hn
end Go.Proofs.Ytgnigkghkldcfaa
