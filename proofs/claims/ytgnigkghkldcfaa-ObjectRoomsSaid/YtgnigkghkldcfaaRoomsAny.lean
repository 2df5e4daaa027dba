/-
  coldstorelaw06.ObjectRooms: true, whatever the quota, and however many steps and faults.
-/
import Derived.Test.YtgnigkghkldcfaaRooms
namespace Go.Proofs.Ytgnigkghkldcfaa
open Go.RowKit Go.Proofs Go.Lib

set_option maxRecDepth 100000 in
set_option maxHeartbeats 4000000 in
theorem rooms_long {w : World} {v : Value} {L : List (Op6 × Value)} (hO : OpsAt w v L) (quota fuse : Int) (fa : Option Addr) (fn fc : Nat) (h : fewB (L.map (·.1)) = false ∨ ¬ fn ≤ 60 ∨ quota < 0) :
    Calls Try.prog 4 #[.int .i64 quota, .int .i64 fuse, .slice fa fn fc, v] w fun e w' => e = .returned (.bool true) ∧ Keep (fun _ => False) w w' := by
  have HO := Lib.hid hO
  obtain ⟨va, vc, rfl⟩ : ∃ p k, v = .slice p L.length k := let ⟨_, p, k, e, _⟩ := hO.row; ⟨p, k, e⟩
  clear hO
  obtain ⟨f, hf⟩ : ∃ f, fewB (L.map (·.1)) = f := ⟨_, rfl⟩
  rw [hf] at h
  have HF := Lib.hid hf; clear hf
  cases f
  · clear h
    go_enter Try.func4, Try.ntmps4
    go_wp2_with fail
    refine (alive_any w).mono ?_
    rintro e w1 ⟨rfl, k1⟩
    go_wp2_with fail
    refine (few_any (HO.out.keep k1 (fun _ _ e => e))).mono ?_
    rintro e w2 ⟨rfl, k2⟩
    rw [HF.out]
    go_wp2
    go_ret
    exact ⟨rfl, k1.trans k2⟩
  · by_cases hn : (fn : Int) ≤ 60
    · have hq : quota < 0 := by
        rcases h with h | h | h
        · cases h
        · omega
        · exact h
      clear h
      go_enter Try.func4, Try.ntmps4
      go_wp2_with fail
      refine (alive_any w).mono ?_
      rintro e w1 ⟨rfl, k1⟩
      go_wp2_with fail
      refine (few_any (HO.out.keep k1 (fun _ _ e => e))).mono ?_
      rintro e w2 ⟨rfl, k2⟩
      rw [HF.out]
      go_wp2
      go_ret
      exact ⟨rfl, k1.trans k2⟩
    · clear h
      go_enter Try.func4, Try.ntmps4
      go_wp2_with fail
      refine (alive_any w).mono ?_
      rintro e w1 ⟨rfl, k1⟩
      go_wp2_with fail
      refine (few_any (HO.out.keep k1 (fun _ _ e => e))).mono ?_
      rintro e w2 ⟨rfl, k2⟩
      rw [HF.out]
      go_wp2
      go_ret
      exact ⟨rfl, k1.trans k2⟩

theorem rooms_any {w : World} {v fv : Value} {L : List (Op6 × Value)} {fl : List Bool} (quota : Int) (hq : -9223372036854775808 ≤ quota ∧ quota ≤ 9223372036854775807) (fuse : Int) (hfu : -9223372036854775808 ≤ fuse ∧ fuse ≤ 9223372036854775807)
    (hfl : Sl w 1 fv fl.length (fl.map .bool)) (hO : OpsAt w v L) (_hk : ∀ p ∈ L, -9223372036854775808 ≤ p.1.kind ∧ p.1.kind ≤ 9223372036854775807) :
    Calls Try.prog 4 #[.int .i64 quota, .int .i64 fuse, fv, v] w fun e w' => e = .returned (.bool true) ∧ Keep (fun _ => False) w w' := by
  by_cases h : fewB (L.map (·.1)) = true ∧ fl.length ≤ 60 ∧ 0 ≤ quota
  · exact rooms_short hO h.1 quota fuse ⟨h.2.2, hq.2⟩ hfu hfl h.2.1
  · obtain ⟨fa, fc, rfl⟩ : ∃ p k, fv = .slice p fl.length k := let ⟨_, p, k, e, _⟩ := hfl; ⟨p, k, e⟩
    refine rooms_long hO quota fuse fa _ fc ?_
    by_cases hf : fewB (L.map (·.1)) = true
    · by_cases hn : fl.length ≤ 60
      · exact .inr (.inr (by have : ¬ 0 ≤ quota := fun e => h ⟨hf, hn, e⟩; omega))
      · exact .inr (.inl hn)
    · exact .inl (by simpa using hf)
end Go.Proofs.Ytgnigkghkldcfaa
