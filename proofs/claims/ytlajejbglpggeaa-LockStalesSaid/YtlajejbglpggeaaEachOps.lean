/-
  How many operations a run over all locks takes.
-/
import Derived.Test.YtlajejbglpggeaaEach
import Derived.Test.YtlajejbglpggeaaTake1
namespace Go.Proofs.Ytlajejbglpggeaa
open Go.RowKit Go.Proofs Go.Lib

section
variable {T : Type}
def resS : Except (Int × OS × T) (OS × T) → OS
  | .ok (s, _) => s
  | .error (_, s, _) => s
theorem eachF_ops {butF : Nat → Bool} {step : OS → T → Nat → Bs → Bs → Except (Int × OS × T) (OS × T)} (h : ∀ s t who nm b, (resS (step s t who nm b)).ops ≤ s.ops + 1) : ∀ (l : List Bs) (s : OS) (t : T), (resS (eachF butF step l s t)).ops ≤ s.ops + 2 * l.length
  | [], s, t => by show s.ops ≤ _; omega
  | nm :: r, s, t => by
    have e1 : s.op.ops = s.ops + 1 := rfl
    have hl : ((nm :: r).length : Int) = r.length + 1 := by simp
    rw [hl]
    simp only [eachF]
    split
    · have := eachF_ops (butF := butF) h r s t; omega
    · split
      · have := eachF_ops (butF := butF) h r s t; omega
      · split
        · have := eachF_ops (butF := butF) h r s.op t; omega
        · split
          · show s.op.ops ≤ _; omega
          · rename_i who _ _ _ _
            have h1 := h s.op t who nm (s.getBytes nm)
            split
            · rename_i s' t' e
              rw [e] at h1
              have h2 : s'.ops ≤ s.op.ops + 1 := h1
              have := eachF_ops (butF := butF) h r s' t'
              omega
            · rename_i x e
              rw [e] at h1
              obtain ⟨k, s', t'⟩ := x
              have h2 : s'.ops ≤ s.op.ops + 1 := h1
              show s'.ops ≤ _
              omega
theorem eachF_err {butF : Nat → Bool} {step : OS → T → Nat → Bs → Bs → Except (Int × OS × T) (OS × T)} (h : ∀ s t who nm b k s' t', step s t who nm b = .error (k, s', t') → k ≠ 0) : ∀ (l : List Bs) (s : OS) (t : T) (k : Int) (s' : OS) (t' : T), eachF butF step l s t = .error (k, s', t') → k ≠ 0
  | [], s, t, k, s', t', e => by cases e
  | nm :: r, s, t, k, s', t', e => by
    simp only [eachF] at e
    split at e
    · exact eachF_err h r _ _ _ _ _ e
    · split at e
      · exact eachF_err h r _ _ _ _ _ e
      · split at e
        · exact eachF_err h r _ _ _ _ _ e
        · split at e
          · rename_i h0; cases e; exact h0
          · split at e
            · exact eachF_err h r _ _ _ _ _ e
            · rename_i x hx
              cases e
              exact h _ _ _ _ _ _ _ _ hx
theorem eachW_err {butF : Nat → Bool} {step : OS → T → Nat → Bs → Bs → Except (Int × OS × T) (OS × T)} (h : ∀ s t who nm b k s' t', step s t who nm b = .error (k, s', t') → k ≠ 0) {s : OS} {t : T} {k : Int} {s' : OS} {t' : T} (e : eachW butF step s t = .error (k, s', t')) : k ≠ 0 := by
  unfold eachW at e
  split at e
  · rename_i h0; cases e; exact h0
  · exact eachF_err h _ _ _ _ _ _ e
theorem eachW_ops {butF : Nat → Bool} {step : OS → T → Nat → Bs → Bs → Except (Int × OS × T) (OS × T)} (h : ∀ s t who nm b, (resS (step s t who nm b)).ops ≤ s.ops + 1) {s : OS} (hs : s.row.length ≤ 4096) (t : T) : (resS (eachW butF step s t)).ops ≤ s.ops + 8193 := by
  have e1 : s.op.ops = s.ops + 1 := rfl
  unfold eachW
  split
  · show s.op.ops ≤ _; omega
  · have h1 := eachF_ops (butF := butF) h (s.names lockP) s.op t
    have h2 : (s.names lockP).length ≤ s.row.length := by
      unfold OS.names
      have := List.length_filter_le (fun x => hasPre x lockP) (s.row.map (·.1))
      rw [List.length_map] at this
      exact this
    omega
end
theorem drop_ops (s : OS) (nm : Bs) : (s.drop nm).ops = s.ops + 1 := by unfold OS.drop; split <;> rfl
theorem put_ops (s : OS) (nm b : Bs) : (s.put nm b).ops = s.ops + 1 := by unfold OS.put; split <;> rfl
theorem stepT_ops (alone : Bool) (now stale : Int) (s : OS) (t : Bool) (who : Nat) (nm b : Bs) : (resS (stepT alone now stale s t who nm b)).ops ≤ s.ops + 1 := by
  unfold stepT
  split
  · show s.ops ≤ _; omega
  · split
    · show (s.drop nm).ops ≤ _; rw [drop_ops]; omega
    · show (s.drop nm).ops ≤ _; rw [drop_ops]; omega
end Go.Proofs.Ytlajejbglpggeaa
