/-
  lock.fresh.
-/
import Derived.Test.YtlajejbglpggeaaLock4
import Derived.BigRegion
namespace Go.Proofs.Ytlajejbglpggeaa
open Go.RowKit Go.Proofs Go.Lib

set_option maxRecDepth 100000 in
set_option maxHeartbeats 2000000 in
theorem lkfresh_any {w : World} {v : Value} {l : Bs} (hb : BytesAt w v l) (hl : l.length ≤ 10000000000000) (now stale : Int) (hnow : 0 ≤ now ∧ now ≤ 1125899906842624) : Calls Try.prog 26 #[v, .int .i64 now, .int .i64 stale] w (FreshPost15 l now stale w) := by
  obtain ⟨va, vc, rfl⟩ : ∃ a c, v = .slice a l.length c := let ⟨_, a, c, e, _⟩ := hb; ⟨a, c, e⟩
  obtain ⟨hn1, hn2⟩ := hnow
  have ka := (Keep.refl (fun _ => False) w).alloc (.cells #[.int .i64 0, .bool false] 65)
  have hm0 := alloc_new w (.cells #[.int .i64 0, .bool false] 65)
  obtain ⟨W0, hW0⟩ : ∃ W, W = w.alloc (.cells #[.int .i64 0, .bool false] 65) := ⟨_, rfl⟩
  have hz0 : W0.heap.size = w.heap.size + 1 := by rw [hW0]; simp
  rw [← hW0] at ka hm0
  have HU := Lib.hid (lkdec_any (Sl.keep hb ka (fun _ _ _ e => e)) hl)
  unfold DecPost15 at HU
  obtain ⟨D, hD⟩ : ∃ D, D = decB l := ⟨_, rfl⟩
  have hF : freshB l now stale = D.bind fun p => if now - (p.1 : Int) < stale then some p.2 else none := by rw [hD]; rfl
  have hin : ∀ s a, D = some (s, a) → s ≤ 1125899906842624 := fun s a h => decB_in (by rw [← hD]; exact h)
  rw [← hD] at HU
  obtain ⟨n, hn⟩ : ∃ n, n = l.length := ⟨_, rfl⟩
  rw [← hn] at HU ⊢
  have H0 := Lib.hid hW0; have HM0 := Lib.hid hm0; have HZ0 := Lib.hid hz0; have KA := Lib.hid ka; have HF := Lib.hid hF; have HIN := Lib.hid hin
  clear hb hW0 hm0 hz0 ka hF hin hD hn hl
  obtain ⟨ok, hok⟩ : ∃ b, b = D.isSome := ⟨_, rfl⟩
  rw [← hok] at HU
  have hcs : (D = none ∧ ok = false) ∨ ∃ (s : Nat) (a : Bool), D = some (s, a) ∧ s ≤ 1125899906842624 ∧ ok = true := by
    cases D with
    | none => exact .inl ⟨rfl, hok⟩
    | some p => exact .inr ⟨p.1, p.2, rfl, HIN.out _ _ rfl, hok⟩
  have HCS := Lib.hid hcs
  clear hcs hok HIN
  go_enter Try.func26, Try.ntmps26
  go_wp2_with fail
  rw [← H0.out]
  refine HU.out.mono ?_
  rintro e w1 ⟨s, a, rfl, hsa, k1⟩
  have hm1 := k1.heap HM0.out id
  have kf := (Keep.refl (fun _ => False) w1).alloc (.cells #[.int .i64 s, .bool a] 65)
  have hb1 := alloc_new w1 (.cells #[.int .i64 s, .bool a] 65)
  have hm2 := kf.heap hm1 id
  have hz1 : w.heap.size < w1.heap.size := by have := k1.size; have := HZ0.out; omega
  have k2 := (KA.out.trans k1).trans kf
  obtain ⟨W2, hW2⟩ : ∃ W, W = w1.alloc (.cells #[.int .i64 s, .bool a] 65) := ⟨_, rfl⟩
  obtain ⟨mb, hmb⟩ : ∃ b, b = w1.heap.size := ⟨_, rfl⟩
  rw [← hW2] at hb1 hm2 k2
  rw [← hmb] at hb1 hz1
  have c0 := cell_blk hb1 0
  have c1 := cell_blk hb1 1
  have d0 := cell_blk hm2 0
  have d1 := cell_blk hm2 1
  have e0 := frozen_blk hm2 0
  have e1 := frozen_blk hm2 1
  simp at c0 c1 d0 d1
  have fin : ∀ W9, W9.heap[w.heap.size]? = some (.cells #[.int .i64 s, .bool a] 65 (0, 0)) → Keep (fun x => x = w.heap.size) W2 W9 → FreshPost15 l now stale w (.returned (.tuple #[.agg #[.int .i64 s, .bool a], .bool (freshB l now stale).isSome])) W9 := fun W9 h9 k9 => by
    refine ⟨s, a, rfl, fun p hp => ?_, k2.trans' k9 (fun _ _ e => e) (fun i hi e => by omega)⟩
    rw [HF.out] at hp
    rcases HCS.out with ⟨hD, _⟩ | ⟨s', a', hD, _⟩
    · rw [hD] at hp; cases hp
    · have h1 := hsa _ hD
      rw [hD] at hp
      simp only [Option.bind_some] at hp
      split at hp
      · cases hp; exact h1.2
      · cases hp
  have hcs : (ok = false ∧ (freshB l now stale).isSome = false) ∨ (ok = true ∧ (0 ≤ s ∧ s ≤ 1125899906842624) ∧ (freshB l now stale).isSome = decide (now - s < stale)) := by
    rcases HCS.out with ⟨hD, ho⟩ | ⟨s', a', hD, hs', ho⟩
    · exact .inl ⟨ho, by rw [HF.out, hD]; rfl⟩
    · have h1 := hsa _ hD
      refine .inr ⟨ho, by omega, ?_⟩
      rw [HF.out, hD]
      simp only [Option.bind_some]
      rw [h1.1]
      by_cases hq : now - (s' : Int) < stale
      · rw [if_pos hq, decide_eq_true hq]; rfl
      · rw [if_neg hq, decide_eq_false hq]; rfl
  obtain ⟨R, hR⟩ : ∃ R, R = (freshB l now stale).isSome := ⟨_, rfl⟩
  rw [← hR] at fin hcs
  have hset := fun (W : World) (h : W.heap[w.heap.size]? = some (.cells #[.int .i64 0, .bool false] 65 (0, 0))) => set_blk (set_blk h 0 (.int .i64 s)) 1 (.bool a)
  have HSET := Lib.hid (hset W2 hm2)
  have KSET := Lib.hid (((Keep.refl (fun x => x = w.heap.size) W2).setCell (p := ⟨w.heap.size, 0, none⟩) (fun _ => rfl) (.int .i64 s)).setCell (p := ⟨w.heap.size, 1, none⟩) (fun _ => rfl) (.bool a))
  have FIN := Lib.hid fin; have HW2 := Lib.hid hW2; have HMB := Lib.hid hmb; have HZ1 := Lib.hid hz1
  have hne : ¬ mb = w.heap.size := by omega
  have hne2 : ¬ w.heap.size = mb := by omega
  clear hsa k1 hm1 kf hb1 hm2 k2 hW2 hmb fin hset HU HCS HF hR hz1 HM0 HZ0 KA H0
  rcases hcs with ⟨rfl, rfl⟩ | ⟨rfl, ⟨hs1, hs2⟩, hRd⟩
  · go_wp2_with fail
    rw [← HW2.out, ← HMB.out]
    go_region
    have h9 := FIN.out _ (drew_blk HSET.out) KSET.out.drew
    have b9 := drew_blk HSET.out
    obtain ⟨W9, hW9⟩ : ∃ W, W = ((W2.setCell ⟨w.heap.size, 0, none⟩ (.int .i64 s)).setCell ⟨w.heap.size, 1, none⟩ (.bool a)).drew := ⟨_, rfl⟩
    rw [← hW9] at h9 b9 ⊢
    have H9 := Lib.hid h9; have B9 := Lib.hid b9
    clear h9 b9 hW9
    go_wp2
    refine bodyPost_ret (results_cell_tmp1 _ _ _ _ _ _ _ (by rfl) B9.out Try.underlying65 rfl (by rw [info_mark]; rfl) rfl) rfl H9.out
  · by_cases hq : now - s < stale
    · obtain rfl : R = true := by rw [hRd]; exact decide_eq_true hq
      clear hRd
      go_wp2_with fail
      rw [← HW2.out, ← HMB.out]
      go_region
      have h9 := FIN.out _ (drew_blk HSET.out) KSET.out.drew
      have b9 := drew_blk HSET.out
      obtain ⟨W9, hW9⟩ : ∃ W, W = ((W2.setCell ⟨w.heap.size, 0, none⟩ (.int .i64 s)).setCell ⟨w.heap.size, 1, none⟩ (.bool a)).drew := ⟨_, rfl⟩
      rw [← hW9] at h9 b9 ⊢
      have H9 := Lib.hid h9; have B9 := Lib.hid b9
      clear h9 b9 hW9
      go_wp2
      refine bodyPost_ret (results_cell_tmp1 _ _ _ _ _ _ _ (by rfl) B9.out Try.underlying65 rfl (by rw [info_mark]; rfl) rfl) rfl H9.out
    · obtain rfl : R = false := by rw [hRd]; exact decide_eq_false hq
      have hq2 : decide (now - s < stale) = false := decide_eq_false hq
      clear hRd
      go_wp2_with fail
      rw [← HW2.out, ← HMB.out]
      go_region
      have h9 := FIN.out _ (drew_blk HSET.out) KSET.out.drew
      have b9 := drew_blk HSET.out
      obtain ⟨W9, hW9⟩ : ∃ W, W = ((W2.setCell ⟨w.heap.size, 0, none⟩ (.int .i64 s)).setCell ⟨w.heap.size, 1, none⟩ (.bool a)).drew := ⟨_, rfl⟩
      rw [← hW9] at h9 b9 ⊢
      have H9 := Lib.hid h9; have B9 := Lib.hid b9
      clear h9 b9 hW9
      go_wp2
      refine bodyPost_ret (results_cell_tmp1 _ _ _ _ _ _ _ (by rfl) B9.out Try.underlying65 rfl (by rw [info_mark]; rfl) rfl) rfl H9.out
end Go.Proofs.Ytlajejbglpggeaa
