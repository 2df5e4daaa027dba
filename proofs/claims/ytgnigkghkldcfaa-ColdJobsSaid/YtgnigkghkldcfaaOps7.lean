/-
  The steps of coldstorelaw07: how a slice of Op reads; few; coldstoreref07.Right.
-/
import Derived.Test.YtgnigkghkldcfaaConv
import Derived.Deep.LoopGhost
import Derived.Deep.Light
namespace Go.Proofs.Ytgnigkghkldcfaa
open Go.RowKit Go.Proofs Go.Lib

structure Op7 where
  kind : Int
  name : Bs
  b : Bs
  now : Int
  wait : Int
  force : Bool

/-- a step, and where its bytes lie -/
def step7 (p : Op7 × Value) : List Value := [.int .i64 p.1.kind, strV p.1.name, p.2, .int .i64 p.1.now, .int .i64 p.1.wait, .bool p.1.force]
structure Ops7At (w : World) (v : Value) (L : List (Op7 × Value)) : Prop where
  row : Sl w 6 v L.length (L.flatMap step7)
  bytes : ∀ p ∈ L, BytesAt w p.2 p.1.b

theorem flat7 {L : List (Op7 × Value)} {k : Nat} {p : Op7 × Value} (h : L[k]? = some p) : ∀ j, j < 6 → (L.flatMap step7)[k * 6 + j]? = (step7 p)[j]? := by
  induction L generalizing k with
  | nil => simp at h
  | cons a r ih =>
    intro j hj
    cases k with
    | zero =>
      simp at h; subst h
      rw [List.flatMap_cons, List.getElem?_append_left (by simp [step7]; omega)]
      simp
    | succ k =>
      simp only [List.getElem?_cons_succ] at h
      rw [List.flatMap_cons, List.getElem?_append_right (by simp [step7]; omega), show (k + 1) * 6 + j - (step7 a).length = k * 6 + j from by simp [step7]; omega]
      exact ih h j hj

theorem Ops7At.keep {F : Nat → Prop} {w w' : World} {v : Value} {L : List (Op7 × Value)} (h : Ops7At w v L) (hk : Keep F w w') (hF : ∀ i, i < w.heap.size → ¬ F i) : Ops7At w' v L := by
  refine ⟨Sl.keep h.row hk (fun b hn e => hF b (Sl.lt h.row (by decide) hn e)), fun p hp => Sl.keep (h.bytes p hp) hk (fun b hn e => hF b (Sl.lt (h.bytes p hp) (by decide) hn e))⟩

def shortOp7 (o : Op7) : Bool := decide (o.name.length ≤ 100) && decide (o.b.length ≤ 100)
def fewB7 (l : List Op7) : Bool := l.all shortOp7 && decide (l.length ≤ 50)

/-- the cells of step k -/
theorem Ops7At.cells {w : World} {b o n c : Nat} {L : List (Op7 × Value)} (h : Ops7At w (.slice (some ⟨b, o, none⟩) n c) L) {k : Nat} {p : Op7 × Value} (hp : L[k]? = some p) :
    w.cell? ⟨b, o + k * 6, none⟩ = some (.int .i64 p.1.kind) ∧ w.cell? ⟨b, o + k * 6 + 1, none⟩ = some (strV p.1.name) ∧ w.cell? ⟨b, o + k * 6 + 2, none⟩ = some p.2 ∧
      w.cell? ⟨b, o + k * 6 + 3, none⟩ = some (.int .i64 p.1.now) ∧ w.cell? ⟨b, o + k * 6 + 4, none⟩ = some (.int .i64 p.1.wait) ∧ w.cell? ⟨b, o + k * 6 + 5, none⟩ = some (.bool p.1.force) := by
  obtain ⟨h1, a, c', e, _, _, _, h6⟩ := h.row
  simp only [Value.slice.injEq] at e
  obtain ⟨rfl, _, rfl⟩ := e
  have hk : k < L.length := (List.getElem?_eq_some_iff.1 hp).1
  obtain ⟨b', o', e2, h7⟩ := h6 (by omega)
  cases e2
  have hf := flat7 hp
  refine ⟨?_, ?_, ?_, ?_, ?_, ?_⟩
  · have := hf 0 (by decide); rw [Nat.add_zero] at this; rw [h7 _ (by omega), this]; rfl
  · have := hf 1 (by decide); rw [Nat.add_assoc, h7 _ (by omega), this]; rfl
  · have := hf 2 (by decide); rw [Nat.add_assoc, h7 _ (by omega), this]; rfl
  · have := hf 3 (by decide); rw [Nat.add_assoc, h7 _ (by omega), this]; rfl
  · have := hf 4 (by decide); rw [Nat.add_assoc, h7 _ (by omega), this]; rfl
  · have := hf 5 (by decide); rw [Nat.add_assoc, h7 _ (by omega), this]; rfl

set_option maxRecDepth 100000 in
set_option maxHeartbeats 2000000 in
theorem few7_any {w : World} {v : Value} {L : List (Op7 × Value)} (h : Ops7At w v L) :
    Calls Try.prog 41 #[v] w fun e w' => e = .returned (.bool (fewB7 (L.map (·.1)))) ∧ Keep (fun _ => False) w w' := by
  obtain ⟨hl3, a, c, rfl, hnc, hcm, ha0, hcell⟩ := h.row
  unfold maxLen at hcm
  have HO := Lib.hid h; clear h
  have HC := Lib.hid hcell; clear hcell
  obtain ⟨N, hN⟩ : ∃ N : Nat, N = L.length := ⟨_, rfl⟩
  rw [← hN] at hnc ⊢
  have HN := Lib.hid hN; clear hN hl3
  go_enter Try.func41, Try.ntmps41
  go_wp2
  go_loopg [7] N (fun g v7 wr => ∃ k : Nat, k ≤ N ∧ g = N - k ∧ v7 = .int .i64 k ∧ Keep (fun _ => False) w wr ∧ (L.take k).all (fun p => shortOp7 p.1) = true)
  case atStart => exact ⟨0, Nat.zero_le _, rfl, rfl, Keep.refl _ _, rfl⟩
  case round =>
    obtain ⟨k, hk, hg, rfl, hkeep, hall⟩ := hrel
    by_cases hlt : k < N
    · obtain ⟨p, hp⟩ : ∃ p, L[k]? = some p := ⟨_, List.getElem?_eq_getElem (by rw [← HN.out]; exact hlt)⟩
      have hO2 := HO.out.keep hkeep (fun _ _ e => e)
      obtain ⟨b, o, rfl, _⟩ := HC.out (by rw [← HN.out]; omega)
      obtain ⟨c0, c1, c2, c3, c4, c5⟩ := hO2.cells (o := o) hp
      have hpb := HO.out.bytes p (List.mem_of_getElem? hp)
      obtain ⟨⟨kind, name, bs, now, wait, force⟩, bv⟩ := p
      obtain ⟨ba, bc, rfl⟩ : ∃ a c, bv = .slice a bs.length c := let ⟨_, a, c, e, _⟩ := hpb; ⟨a, c, e⟩
      simp only [strV] at c1
      have htake : (L.take (k + 1)).all (fun p => shortOp7 p.1) = ((L.take k).all (fun p => shortOp7 p.1) && shortOp7 ⟨kind, name, bs, now, wait, force⟩) := by
        rw [List.take_add_one, hp]; simp
      have hmem : (L.map (·.1)).all shortOp7 = true → shortOp7 ⟨kind, name, bs, now, wait, force⟩ = true := fun e => List.all_eq_true.1 e _ (List.mem_map.2 ⟨_, List.mem_of_getElem? hp, rfl⟩)
      have HT := Lib.hid htake; have HM := Lib.hid hmem; have HA := Lib.hid hall; have HK := Lib.hid hkeep; have HG := Lib.hid hg
      clear htake hmem hall hkeep hg hO2 hpb hp ha0
      have hsz : (⟨name.toArray⟩ : ByteArray).size = name.length := by simp [ByteArray.size]
      by_cases hn : name.length ≤ 100
      · have hn' : ((⟨name.toArray⟩ : ByteArray).size : Int) ≤ 100 := by rw [hsz]; omega
        by_cases hb : bs.length ≤ 100
        · have hb' : (bs.length : Int) ≤ 100 := by omega
          go_wp2
          go_roundg (N - (k + 1))
          case measure => have := HG.out; omega
          case rel => exact ⟨k + 1, by omega, rfl, by go_num, HK.out.alloc _, by rw [HT.out, HA.out]; simp [shortOp7, hn, hb]⟩
        · have hb' : ¬ (bs.length : Int) ≤ 100 := by omega
          go_wp2
          go_ret
          refine ⟨?_, HK.out.alloc _⟩
          have : fewB7 (L.map (·.1)) = false := by
            cases hf : fewB7 (L.map (·.1)) with
            | false => rfl
            | true =>
              unfold fewB7 at hf
              rw [Bool.and_eq_true] at hf
              have := HM.out hf.1
              simp [shortOp7, hb] at this
          rw [this]; rfl
      · have hn' : ¬ ((⟨name.toArray⟩ : ByteArray).size : Int) ≤ 100 := by rw [hsz]; omega
        go_wp2
        go_ret
        refine ⟨?_, HK.out.alloc _⟩
        have : fewB7 (L.map (·.1)) = false := by
          cases hf : fewB7 (L.map (·.1)) with
          | false => rfl
          | true =>
            unfold fewB7 at hf
            rw [Bool.and_eq_true] at hf
            have := HM.out hf.1
            simp [shortOp7, hn] at this
        rw [this]; rfl
    · have hkN : k = N := by omega
      have hall2 : (L.map (·.1)).all shortOp7 = true := by
        rw [hkN, List.take_of_length_le (by rw [HN.out]; exact Nat.le_refl _)] at hall
        rw [List.all_map]; exact hall
      have hfin : fewB7 (L.map (·.1)) = decide ((N : Int) ≤ 50) := by
        unfold fewB7
        rw [hall2, List.length_map, ← HN.out]
        simp
        omega
      have HF := Lib.hid hfin; have HK := Lib.hid hkeep; have HKN := Lib.hid hkN
      clear hfin hkeep hall2 hall hg hkN ha0
      go_wp2
      go_ret
      refine ⟨?_, HK.out⟩
      rw [HF.out]; rfl

def right7 (quota jobs life least : Int) : Bool := decide (0 ≤ quota) && decide (1 ≤ jobs) && decide (jobs ≤ 64) && decide (1 ≤ life) && decide (life ≤ 1125899906842624) && decide (0 ≤ least) && decide (least ≤ 1125899906842624)
theorem right7_of {quota jobs life least : Int} (h : right7 quota jobs life least = true) : 0 ≤ quota ∧ (1 ≤ jobs ∧ jobs ≤ 64) ∧ (1 ≤ life ∧ life ≤ 1125899906842624) ∧ (0 ≤ least ∧ least ≤ 1125899906842624) := by
  unfold right7 at h
  simp at h
  omega

set_option maxRecDepth 100000 in
theorem right7_any (quota jobs life least : Int) (w : World) : Calls Try.prog 42 #[.int .i64 quota, .int .i64 jobs, .int .i64 life, .int .i64 least] w fun e w' => e = .returned (.bool (right7 quota jobs life least)) ∧ w = w' := by
  unfold right7
  go_enter Try.func42, Try.ntmps42
  go_wp2
  all_goals go_ret
  all_goals exact ⟨by congr 2 <;> simp <;> omega, rfl⟩
end Go.Proofs.Ytgnigkghkldcfaa
