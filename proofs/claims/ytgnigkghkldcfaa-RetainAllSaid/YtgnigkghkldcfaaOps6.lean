/-
  The steps of coldstorelaw06: how a slice of Op reads; few.
-/
import Derived.Test.YtgnigkghkldcfaaConv
import Derived.Deep.LoopGhost
import Derived.Deep.Light
namespace Go.Proofs.Ytgnigkghkldcfaa
open Go.RowKit Go.Proofs Go.Lib

structure Op6 where
  kind : Int
  name : Bs
  b : Bs

/-- a step, and where its bytes lie -/
def stepCells (p : Op6 × Value) : List Value := [.int .i64 p.1.kind, strV p.1.name, p.2]
structure OpsAt (w : World) (v : Value) (L : List (Op6 × Value)) : Prop where
  row : Sl w 3 v L.length (L.flatMap stepCells)
  bytes : ∀ p ∈ L, BytesAt w p.2 p.1.b

theorem flat_get {L : List (Op6 × Value)} {k : Nat} {p : Op6 × Value} (h : L[k]? = some p) : (L.flatMap stepCells)[k * 3]? = some (.int .i64 p.1.kind) ∧ (L.flatMap stepCells)[k * 3 + 1]? = some (strV p.1.name) ∧ (L.flatMap stepCells)[k * 3 + 2]? = some p.2 := by
  induction L generalizing k with
  | nil => simp at h
  | cons a r ih =>
    cases k with
    | zero => simp at h; subst h; simp [stepCells]
    | succ k =>
      simp only [List.getElem?_cons_succ] at h
      have := ih h
      rw [show (k + 1) * 3 = k * 3 + 3 from by omega]
      simpa [stepCells, Nat.add_assoc] using this

theorem OpsAt.keep {F : Nat → Prop} {w w' : World} {v : Value} {L : List (Op6 × Value)} (h : OpsAt w v L) (hk : Keep F w w') (hF : ∀ i, i < w.heap.size → ¬ F i) : OpsAt w' v L := by
  refine ⟨Sl.keep h.row hk (fun b hn e => hF b (Sl.lt h.row (by decide) hn e)), fun p hp => Sl.keep (h.bytes p hp) hk (fun b hn e => hF b (Sl.lt (h.bytes p hp) (by decide) hn e))⟩

def shortOp (o : Op6) : Bool := decide (o.name.length ≤ 100) && decide (o.b.length ≤ 200)
def fewB (l : List Op6) : Bool := l.all shortOp && decide (l.length ≤ 60)

/-- the cells of step k -/
theorem OpsAt.cells {w : World} {b o n c : Nat} {L : List (Op6 × Value)} (h : OpsAt w (.slice (some ⟨b, o, none⟩) n c) L) {k : Nat} {p : Op6 × Value} (hp : L[k]? = some p) :
    w.cell? ⟨b, o + k * 3, none⟩ = some (.int .i64 p.1.kind) ∧ w.cell? ⟨b, o + k * 3 + 1, none⟩ = some (strV p.1.name) ∧ w.cell? ⟨b, o + k * 3 + 2, none⟩ = some p.2 := by
  obtain ⟨h1, a, c', e, _, _, _, h6⟩ := h.row
  simp only [Value.slice.injEq] at e
  obtain ⟨rfl, _, rfl⟩ := e
  have hk : k < L.length := (List.getElem?_eq_some_iff.1 hp).1
  obtain ⟨b', o', e2, h7⟩ := h6 (by omega)
  cases e2
  obtain ⟨f0, f1, f2⟩ := flat_get hp
  refine ⟨?_, ?_, ?_⟩
  · rw [h7 _ (by omega), f0]
  · rw [Nat.add_assoc, h7 _ (by omega), f1]
  · rw [Nat.add_assoc, h7 _ (by omega), f2]

set_option maxRecDepth 100000 in
set_option maxHeartbeats 2000000 in
theorem few_any {w : World} {v : Value} {L : List (Op6 × Value)} (h : OpsAt w v L) :
    Calls Try.prog 17 #[v] w fun e w' => e = .returned (.bool (fewB (L.map (·.1)))) ∧ Keep (fun _ => False) w w' := by
  obtain ⟨hl3, a, c, rfl, hnc, hcm, ha0, hcell⟩ := h.row
  unfold maxLen at hcm
  have HO := Lib.hid h; clear h
  have HC := Lib.hid hcell; clear hcell
  obtain ⟨N, hN⟩ : ∃ N : Nat, N = L.length := ⟨_, rfl⟩
  rw [← hN] at hnc ⊢
  have HN := Lib.hid hN; clear hN hl3
  go_enter Try.func17, Try.ntmps17
  go_wp2
  go_loopg [7] N (fun g v7 wr => ∃ k : Nat, k ≤ N ∧ g = N - k ∧ v7 = .int .i64 k ∧ Keep (fun _ => False) w wr ∧ (L.take k).all (fun p => shortOp p.1) = true)
  case atStart => exact ⟨0, Nat.zero_le _, rfl, rfl, Keep.refl _ _, rfl⟩
  case round =>
    obtain ⟨k, hk, hg, rfl, hkeep, hall⟩ := hrel
    by_cases hlt : k < N
    · obtain ⟨p, hp⟩ : ∃ p, L[k]? = some p := ⟨_, List.getElem?_eq_getElem (by rw [← HN.out]; exact hlt)⟩
      have hO2 := HO.out.keep hkeep (fun _ _ e => e)
      obtain ⟨b, o, rfl, _⟩ := HC.out (by rw [← HN.out]; omega)
      obtain ⟨c0, c1, c2⟩ := hO2.cells (o := o) hp
      have hpb := HO.out.bytes p (List.mem_of_getElem? hp)
      obtain ⟨⟨kind, name, bs⟩, bv⟩ := p
      obtain ⟨ba, bc, rfl⟩ : ∃ a c, bv = .slice a bs.length c := let ⟨_, a, c, e, _⟩ := hpb; ⟨a, c, e⟩
      simp only [strV] at c1
      have htake : (L.take (k + 1)).all (fun p => shortOp p.1) = ((L.take k).all (fun p => shortOp p.1) && shortOp ⟨kind, name, bs⟩) := by
        rw [List.take_add_one, hp]; simp
      have hmem : (L.map (·.1)).all shortOp = true → shortOp ⟨kind, name, bs⟩ = true := fun e => List.all_eq_true.1 e _ (List.mem_map.2 ⟨_, List.mem_of_getElem? hp, rfl⟩)
      have HT := Lib.hid htake; have HM := Lib.hid hmem; have HA := Lib.hid hall; have HK := Lib.hid hkeep; have HG := Lib.hid hg
      clear htake hmem hall hkeep hg hO2 hpb hp ha0
      have hsz : (⟨name.toArray⟩ : ByteArray).size = name.length := by simp [ByteArray.size]
      by_cases hn : name.length ≤ 100
      · have hn' : ((⟨name.toArray⟩ : ByteArray).size : Int) ≤ 100 := by rw [hsz]; omega
        by_cases hb : bs.length ≤ 200
        · have hb' : (bs.length : Int) ≤ 200 := by omega
          go_wp2
          go_roundg (N - (k + 1))
          case measure => have := HG.out; omega
          case rel => exact ⟨k + 1, by omega, rfl, by go_num, HK.out.alloc _, by rw [HT.out, HA.out]; simp [shortOp, hn, hb]⟩
        · have hb' : ¬ (bs.length : Int) ≤ 200 := by omega
          go_wp2
          go_ret
          refine ⟨?_, HK.out.alloc _⟩
          have : fewB (L.map (·.1)) = false := by
            cases hf : fewB (L.map (·.1)) with
            | false => rfl
            | true =>
              unfold fewB at hf
              rw [Bool.and_eq_true] at hf
              have := HM.out hf.1
              simp [shortOp, hb] at this
          rw [this]; rfl
      · have hn' : ¬ ((⟨name.toArray⟩ : ByteArray).size : Int) ≤ 100 := by rw [hsz]; omega
        go_wp2
        go_ret
        refine ⟨?_, HK.out.alloc _⟩
        have : fewB (L.map (·.1)) = false := by
          cases hf : fewB (L.map (·.1)) with
          | false => rfl
          | true =>
            unfold fewB at hf
            rw [Bool.and_eq_true] at hf
            have := HM.out hf.1
            simp [shortOp, hn] at this
        rw [this]; rfl
    · have hkN : k = N := by omega
      have hall2 : (L.map (·.1)).all shortOp = true := by
        rw [hkN, List.take_of_length_le (by rw [HN.out]; exact Nat.le_refl _)] at hall
        rw [List.all_map]; exact hall
      have hfin : fewB (L.map (·.1)) = decide ((N : Int) ≤ 60) := by
        unfold fewB
        rw [hall2, List.length_map, ← HN.out]
        simp
        omega
      have HF := Lib.hid hfin; have HK := Lib.hid hkeep; have HKN := Lib.hid hkN
      clear hfin hkeep hall2 hall hg hkN ha0
      go_wp2
      go_ret
      refine ⟨?_, HK.out⟩
      rw [HF.out]; rfl
end Go.Proofs.Ytgnigkghkldcfaa
