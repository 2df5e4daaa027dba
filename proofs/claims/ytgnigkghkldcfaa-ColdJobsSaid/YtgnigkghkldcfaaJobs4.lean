/-
  coldstorelaw07.ColdJobs: true, whatever the store is made of, and however many steps and faults.
-/
import Derived.Test.YtgnigkghkldcfaaJobs3
namespace Go.Proofs.Ytgnigkghkldcfaa
open Go.RowKit Go.Proofs Go.Lib

set_option maxRecDepth 100000 in
set_option maxHeartbeats 4000000 in
theorem jobs_long {w : World} {v : Value} {L : List (Op7 × Value)} (hO : Ops7At w v L) (q jb fu li le : Int) (fa : Option Addr) (fn fc : Nat) (h : fewB7 (L.map (·.1)) = false ∨ ¬ fn ≤ 60 ∨ right7 q jb li le = false) :
    Calls Try.prog 8 #[.agg #[.int .i64 q, .int .i64 jb, .int .i64 fu, .int .i64 li, .int .i64 le, .slice fa fn fc], v] w fun e w' => e = .returned (.bool true) ∧ Keep (fun _ => False) w w' := by
  have HO := Lib.hid hO
  obtain ⟨va, vc, rfl⟩ : ∃ p k, v = .slice p L.length k := let ⟨_, p, k, e, _⟩ := hO.row; ⟨p, k, e⟩
  clear hO
  have KA := Lib.hid ((Keep.refl (fun _ => False) w).alloc (.cells #[.int .i64 q, .int .i64 jb, .int .i64 fu, .int .i64 li, .int .i64 le, .slice fa fn fc] 67))
  have HBX := Lib.hid (alloc_new w (.cells #[.int .i64 q, .int .i64 jb, .int .i64 fu, .int .i64 li, .int .i64 le, .slice fa fn fc] 67))
  obtain ⟨ib, hib⟩ : ∃ b, b = w.heap.size := ⟨_, rfl⟩
  rw [← hib] at HBX
  have HIB := Lib.hid hib
  clear hib
  obtain ⟨f, hf⟩ : ∃ f, fewB7 (L.map (·.1)) = f := ⟨_, rfl⟩
  rw [hf] at h
  have HF := Lib.hid hf; clear hf
  have hc : f = false ∨ (f = true ∧ ¬ (fn : Int) ≤ 60) ∨ (f = true ∧ (fn : Int) ≤ 60 ∧ right7 q jb li le = false) := by
    cases f
    · exact .inl rfl
    · rcases h with h | h | h
      · cases h
      · exact .inr (.inl ⟨rfl, by omega⟩)
      · by_cases h2 : (fn : Int) ≤ 60
        · exact .inr (.inr ⟨rfl, h2, h⟩)
        · exact .inr (.inl ⟨rfl, h2⟩)
  clear h
  rcases hc with rfl | ⟨rfl, h60⟩ | ⟨rfl, h60, hr⟩
  · go_enter Try.func8, Try.ntmps8
    go_wp2_with fail
    rw [← HIB.out]
    refine (alive7_any _).mono ?_
    rintro e w1 ⟨rfl, k1⟩
    have K1 := Lib.hid (KA.out.trans k1); clear k1
    go_wp2_with fail
    refine (few7_any (HO.out.keep K1.out (fun _ _ e => e))).mono ?_
    rintro e w2 ⟨rfl, k2⟩
    rw [HF.out]
    have K2 := Lib.hid (K1.out.trans k2); clear k2
    go_wp2
    go_ret
    exact ⟨rfl, K2.out⟩
  · go_enter Try.func8, Try.ntmps8
    go_wp2_with fail
    rw [← HIB.out]
    refine (alive7_any _).mono ?_
    rintro e w1 ⟨rfl, k1⟩
    have K1 := Lib.hid (KA.out.trans k1); have B1 := Lib.hid (k1.heap HBX.out id); clear k1
    go_wp2_with fail
    refine (few7_any (HO.out.keep K1.out (fun _ _ e => e))).mono ?_
    rintro e w2 ⟨rfl, k2⟩
    rw [HF.out]
    have K2 := Lib.hid (K1.out.trans k2)
    have c5 : w2.cell? ⟨ib, 5, none⟩ = some (.slice fa fn fc) := by rw [cell_blk (k2.heap B1.out id)]; rfl
    clear k2
    go_wp2
    go_ret
    exact ⟨rfl, K2.out⟩
  · have HR := Lib.hid hr; clear hr
    go_enter Try.func8, Try.ntmps8
    go_wp2_with fail
    rw [← HIB.out]
    refine (alive7_any _).mono ?_
    rintro e w1 ⟨rfl, k1⟩
    have K1 := Lib.hid (KA.out.trans k1); have B1 := Lib.hid (k1.heap HBX.out id); clear k1
    go_wp2_with fail
    refine (few7_any (HO.out.keep K1.out (fun _ _ e => e))).mono ?_
    rintro e w2 ⟨rfl, k2⟩
    rw [HF.out]
    have K2 := Lib.hid (K1.out.trans k2)
    have B2 := Lib.hid (k2.heap B1.out id)
    have c0 : w2.cell? ⟨ib, 0, none⟩ = some (.int .i64 q) := by rw [cell_blk B2.out]; rfl
    have c1 : w2.cell? ⟨ib, 1, none⟩ = some (.int .i64 jb) := by rw [cell_blk B2.out]; rfl
    have c3 : w2.cell? ⟨ib, 3, none⟩ = some (.int .i64 li) := by rw [cell_blk B2.out]; rfl
    have c4 : w2.cell? ⟨ib, 4, none⟩ = some (.int .i64 le) := by rw [cell_blk B2.out]; rfl
    have c5 : w2.cell? ⟨ib, 5, none⟩ = some (.slice fa fn fc) := by rw [cell_blk B2.out]; rfl
    clear k2
    go_wp2_with fail
    refine (right7_any q jb li le _).mono ?_
    rintro e w3 ⟨rfl, rfl⟩
    rw [HR.out]
    go_wp2
    go_ret
    exact ⟨rfl, K2.out⟩

theorem jobs_any {w : World} {v fv : Value} {L : List (Op7 × Value)} {fl : List Bool} (q jb fu li le : Int) (hq : -9223372036854775808 ≤ q ∧ q ≤ 9223372036854775807) (hj : -9223372036854775808 ≤ jb ∧ jb ≤ 9223372036854775807) (_hfu : -9223372036854775808 ≤ fu ∧ fu ≤ 9223372036854775807) (hli : -9223372036854775808 ≤ li ∧ li ≤ 9223372036854775807) (hle : -9223372036854775808 ≤ le ∧ le ≤ 9223372036854775807)
    (hfl : Sl w 1 fv fl.length (fl.map .bool)) (hO : Ops7At w v L) (_hk : ∀ p ∈ L, (-9223372036854775808 ≤ p.1.kind ∧ p.1.kind ≤ 9223372036854775807) ∧ (-9223372036854775808 ≤ p.1.now ∧ p.1.now ≤ 9223372036854775807) ∧ (-9223372036854775808 ≤ p.1.wait ∧ p.1.wait ≤ 9223372036854775807)) :
    Calls Try.prog 8 #[.agg #[.int .i64 q, .int .i64 jb, .int .i64 fu, .int .i64 li, .int .i64 le, fv], v] w fun e w' => e = .returned (.bool true) ∧ Keep (fun _ => False) w w' := by
  by_cases h : fewB7 (L.map (·.1)) = true ∧ fl.length ≤ 60 ∧ right7 q jb li le = true
  · exact jobs_short hO h.1 q jb fu li le ⟨hq, hj, hli, hle⟩ hfl h.2.1 h.2.2
  · obtain ⟨fa, fc, rfl⟩ : ∃ p k, fv = .slice p fl.length k := let ⟨_, p, k, e, _⟩ := hfl; ⟨p, k, e⟩
    refine jobs_long hO q jb fu li le fa _ fc ?_
    by_cases hf : fewB7 (L.map (·.1)) = true
    · by_cases hn : fl.length ≤ 60
      · exact .inr (.inr (by simpa using fun e => h ⟨hf, hn, e⟩))
      · exact .inr (.inl hn)
    · exact .inl (by simpa using hf)
end Go.Proofs.Ytgnigkghkldcfaa
