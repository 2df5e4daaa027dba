/-
  What the laws of layer 19 lean on: Keep over given places and days; a row of Bools in a block; a count along a row.
-/
import Derived.Test.YtgnigkghkldcfaaAlive19
import Derived.Test.YtgnigkghkldcfaaMaskLaw
import Derived.Test.YtgnigkghkldcfaaOpenSnaps
namespace Go.Proofs.Ytgnigkghkldcfaa
open Go.RowKit Go.Proofs Go.Lib Go.Maps Go.Sort Go.Shelf

theorem places_ex (L : List SnapR) : ∃ P, Places L P := by
  refine ⟨(List.range L.length).mergeSort (fun i j => decide (leP L i j)), List.mergeSort_perm _ _, ?_⟩
  have := List.pairwise_mergeSort (le := fun i j => decide (leP L i j)) (fun a b c h1 h2 => by simp at *; exact leP.tr a b c h1 h2) (fun a b => by simp; exact leP.total L a b) (List.range L.length)
  exact this.imp (fun h => by simpa using h)
theorem days_ex (L : List SnapR) (day : Int) : ∃ D, DaysOf L day D := by
  by_cases h : 1 ≤ day
  · exact ⟨_, days_sorted L h⟩
  · exact ⟨[], days_none L h⟩
theorem ok32 {L : List SnapR} (h : ∀ s ∈ L, SnapOK s) : Snaps32 L := fun s hs => (h s hs).1
theorem ok64 {L : List SnapR} (h : ∀ s ∈ L, SnapOK s) : ∀ s ∈ L, In64 s.time := fun s hs => (h s hs).2.1

def BoolsAt (w : World) (g : Nat) (B : List Bool) : Prop := w.heap[g]? = some (.cells (B.map Value.bool).toArray 4 (0, 0))
theorem BoolsAt.keep {F : Nat → Prop} {w w' : World} {g : Nat} {B : List Bool} (h : BoolsAt w g B) (hk : Keep F w w') (hF : ¬ F g) : BoolsAt w' g B := hk.heap h hF
theorem BoolsAt.at {w : World} {g : Nat} {B : List Bool} (h : BoolsAt w g B) {k : Nat} {b : Bool} (hb : B[k]? = some b) : w.cell? ⟨g, k, none⟩ = some (.bool b) := by
  rw [cell_blk h, List.getElem?_toArray, List.getElem?_map, hb]; rfl
theorem keep_at {w : World} {v : Value} {L : List SnapR} {p : PolR} {P : List Nat} {D : List Int} (hL : SnapsAt w v L) (hOK : ∀ s ∈ L, SnapOK s) (h30 : L.length ≤ 30) (hlast : In64 p.last) (hdays : In64 p.days) (hwi : In64 p.within) (hP : Places L P) (hD : DaysOf L p.day D) :
    Calls Try.prog 54 #[v, .agg (polCells p)] w fun e w' => ∃ g c, e = .returned (.slice (some ⟨g, 0, none⟩) L.length c) ∧ Keep (fun _ => False) w w' ∧ BoolsAt w' g (keepB L P p D) := by
  refine (keep_any hL (ok32 hOK) (ok64 hOK) (by omega) hlast hdays hwi).mono ?_
  rintro e w' ⟨g, c, P', D', rfl, hg, hk, hP', hD', hb⟩
  obtain rfl := hP'.eq hP
  obtain rfl := hD'.eq hD
  exact ⟨g, c, rfl, hk, hb⟩
theorem days_at {w : World} {v : Value} {L : List SnapR} {day : Int} {D : List Int} (hL : SnapsAt w v L) (hOK : ∀ s ∈ L, SnapOK s) (h30 : L.length ≤ 30) (hD : DaysOf L day D) :
    Calls Try.prog 57 #[v, .int .i64 day] w fun e w' => ∃ d, e = .returned d ∧ Keep (fun _ => False) w w' ∧ Sl w' 1 d D.length (D.map (.int .i64)) := by
  refine (days_any hL (ok32 hOK) (ok64 hOK) (by omega)).mono ?_
  rintro e w' ⟨d, D', rfl, hD', hs, hk, -⟩
  obtain rfl := hD'.eq hD
  exact ⟨d, rfl, hk, hs⟩
theorem gone_at {w : World} {v : Value} {L : List SnapR} {p : PolR} {P : List Nat} {D : List Int} {most : Int} (hL : SnapsAt w v L) (hOK : ∀ s ∈ L, SnapOK s) (h30 : L.length ≤ 30) (hlast : In64 p.last) (hdays : In64 p.days) (hwi : In64 p.within) (hP : Places L P) (hD : DaysOf L p.day D)
    (hm : 0 < most) (hm2 : most ≤ 4000000000000000000) : Calls Try.prog 59 #[v, .agg (polCells p), .int .i64 most] w (GonePost L P p D most w) :=
  gone_any hL (ok32 hOK) (ok64 hOK) (by omega) hlast hdays hwi hP hD hm hm2

/-- how many are true among the first k -/
def cntB (B : List Bool) (k : Nat) : Nat := (B.take k).countP id
theorem cntB_zero (B : List Bool) : cntB B 0 = 0 := by simp [cntB]
theorem cntB_step {B : List Bool} {k : Nat} {b : Bool} (h : B[k]? = some b) : cntB B (k + 1) = cntB B k + (if b then 1 else 0) := by
  unfold cntB
  rw [take_snoc h, List.countP_append]
  cases b <;> rfl
theorem cntB_all {B : List Bool} {k : Nat} (h : B.length ≤ k) : cntB B k = B.countP id := by unfold cntB; rw [List.take_of_length_le h]
theorem cntB_le (B : List Bool) (k : Nat) : cntB B k ≤ k := by
  unfold cntB
  exact Nat.le_trans List.countP_le_length (by rw [List.length_take]; exact Nat.min_le_left _ _)
end Go.Proofs.Ytgnigkghkldcfaa
