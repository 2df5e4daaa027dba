/-
  coldstorelaw19.alive: the document's example is true.
-/
import Derived.Test.YtgnigkghkldcfaaGone
import Derived.Test.YtgnigkghkldcfaaSameL
namespace Go.Proofs.Ytgnigkghkldcfaa
open Go.RowKit Go.Proofs Go.Lib Go.Maps Go.Sort Go.Shelf

theorem four_bools {w : World} {g : Nat} {b0 b1 b2 b3 : Bool} {t : TypeId} (h : w.heap[g]? = some (.cells #[.bool b0, .bool b1, .bool b2, .bool b3] t (0, 0))) :
    w.cell? ⟨g, 0, none⟩ = some (.bool b0) ∧ w.cell? ⟨g, 1, none⟩ = some (.bool b1) ∧ w.cell? ⟨g, 2, none⟩ = some (.bool b2) ∧ w.cell? ⟨g, 3, none⟩ = some (.bool b3) :=
  ⟨by rw [cell_blk h]; rfl, by rw [cell_blk h]; rfl, by rw [cell_blk h]; rfl, by rw [cell_blk h]; rfl⟩
theorem alive32 : Snaps32 aliveL := by
  unfold Snaps32 aliveL snapT
  intro s hs
  simp at hs
  rcases hs with rfl | rfl | rfl | rfl <;> rfl
theorem alive64 : ∀ s ∈ aliveL, In64 s.time := by
  unfold aliveL snapT
  intro s hs
  simp at hs
  rcases hs with rfl | rfl | rfl | rfl <;> (unfold In64; decide)

set_option maxRecDepth 100000 in
set_option maxHeartbeats 4000000 in
theorem alive19_any (w : World) : Calls Try.prog 53 #[] w fun e w' => e = .returned (.bool true) ∧ Keep (fun _ => False) w w' := by
  go_enter Try.func53, Try.ntmps53
  go_wp2_with fail
  have hL : ∀ cs : Array Value, cs = (aliveL.flatMap snapCells).toArray → SnapsAt (w.alloc (.cells cs 108)) (.slice (some ⟨w.heap.size, 0, none⟩) 4 4) aliveL := by
    rintro cs rfl
    refine ⟨rfl, some ⟨w.heap.size, 0, none⟩, 4, rfl, Nat.le_refl _, by decide, (fun e => by cases e), fun _ => ⟨w.heap.size, 0, rfl, fun j hj => ?_⟩⟩
    rw [cell_blk (alloc_new w _), Nat.zero_add, List.getElem?_toArray]
  have hka : ∀ cs : Array Value, Keep (fun _ => False) w (w.alloc (.cells cs 108)) := fun cs => (Keep.refl _ w).alloc _
  refine (keep_any (p := ⟨1, 0, 0, 0, []⟩) (hL _ (by kernel_rfl)) alive32 alive64 (by decide) (by unfold In64; decide) (by unfold In64; decide) (by unfold In64; decide)).mono ?_
  rintro e w1 ⟨g1, c1, P1, D1, rfl, -, k1, hP1, -, b1⟩
  obtain rfl := hP1.eq aliveP
  rw [show aliveL.length = 4 from rfl]
  have hL1 := (hL _ (by kernel_rfl)).keep k1 (fun _ _ e => e)
  have k01 := (hka _).trans k1
  have b1' : w1.heap[g1]? = some (.cells #[.bool false, .bool true, .bool false, .bool false] 4 (0, 0)) := by
    have := alive_a (D := D1); unfold keepB at this; rw [this] at b1; exact b1
  have HL1 := Lib.hid hL1; have HK01 := Lib.hid k01; have HB1 := Lib.hid b1'
  clear k1 hP1 b1 b1' hL1 k01 hL hka
  go_wp2_with fail
  refine (keep_any (p := ⟨0, 2, 10, 0, []⟩) HL1.out alive32 alive64 (by decide) (by unfold In64; decide) (by unfold In64; decide) (by unfold In64; decide)).mono ?_
  rintro e w2 ⟨g2, c2, P2, D2, rfl, -, k2, hP2, hD2, b2⟩
  obtain rfl := hP2.eq aliveP
  rw [show aliveL.length = 4 from rfl]
  obtain rfl := hD2.eq aliveD
  have b2' : w2.heap[g2]? = some (.cells #[.bool false, .bool true, .bool true, .bool false] 4 (0, 0)) := by
    have := alive_b; unfold keepB at this; rw [this] at b2; exact b2
  have HL2 := Lib.hid (HL1.out.keep k2 (fun _ _ e => e)); have HK02 := Lib.hid (HK01.out.trans k2); have HB12 := Lib.hid (k2.heap HB1.out id); have HB2 := Lib.hid b2'
  clear k2 hP2 hD2 b2 b2' HL1 HK01 HB1
  go_wp2_with fail
  refine (keep_any (p := ⟨0, 0, 0, 5, [120]⟩) HL2.out alive32 alive64 (by decide) (by unfold In64; decide) (by unfold In64; decide) (by unfold In64; decide)).mono ?_
  rintro e w3 ⟨g3, c3, P3, D3, rfl, -, k3, hP3, hD3, b3⟩
  obtain rfl := hP3.eq aliveP
  rw [show aliveL.length = 4 from rfl]
  have b3' : w3.heap[g3]? = some (.cells #[.bool false, .bool true, .bool true, .bool true] 4 (0, 0)) := by
    have := alive_c (D := D3); unfold keepB at this; rw [this] at b3; exact b3
  have HL3 := Lib.hid (HL2.out.keep k3 (fun _ _ e => e)); have HK03 := Lib.hid (HK02.out.trans k3); have HB13 := Lib.hid (k3.heap HB12.out id); have HB23 := Lib.hid (k3.heap HB2.out id); have HB3 := Lib.hid b3'
  clear k3 hP3 hD3 b3 b3' HL2 HK02 HB12 HB2
  go_wp2_with fail
  refine (days_any (day := 10) HL3.out alive32 alive64 (by decide)).mono ?_
  rintro e w4 ⟨dv, D4, rfl, hD4, hs4, k4, -⟩
  obtain rfl := hD4.eq aliveD
  obtain ⟨db, dd, dc, rfl, _, _⟩ := Sl.base hs4 (by decide)
  rw [show ([2, 1, 0] : List Int).length = 3 from rfl]
  have cD : w4.cell? ⟨db, dd, none⟩ = some (.int .i64 2) := by have := Sl.at1 (k := 0) hs4 rfl; simpa using this
  obtain ⟨x10, x11, x12, x13⟩ := four_bools (k4.heap HB13.out id)
  obtain ⟨x20, x21, x22, x23⟩ := four_bools (k4.heap HB23.out id)
  obtain ⟨x30, x31, x32, x33⟩ := four_bools (k4.heap HB3.out id)
  have HL4 := Lib.hid (HL3.out.keep k4 (fun _ _ e => e)); have HK04 := Lib.hid (HK03.out.trans k4)
  clear k4 hD4 hs4 HL3 HK03 HB13 HB23 HB3
  go_wp2_with fail
  refine (gone_any (p := ⟨1, 0, 0, 0, []⟩) (D := []) HL4.out alive32 alive64 (by decide) (by unfold In64; decide) (by unfold In64; decide) (by unfold In64; decide) aliveP (days_none _ (by decide)) (by decide) (by decide)).mono ?_
  rintro e w5 ⟨r5, c5, rfl, -, k5⟩
  rw [alive_g, show ((([0, 2, 3] : List Nat).take (9 : Int).toNat).length) = 3 from rfl]
  have HK05 := Lib.hid (HK04.out.trans k5)
  clear k5 HK04 HL4 x10 x11 x12 x13 x20 x21 x22 x23 x30 x31 x32 x33 cD
  go_wp2
  go_ret
  exact ⟨rfl, HK05.out⟩
end Go.Proofs.Ytgnigkghkldcfaa
