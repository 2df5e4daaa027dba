/-
  coldstorelaw07.names of a store that has nothing; the promoted methods of a cold store.
-/
import Derived.Test.YtgnigkghkldcfaaColdC
import Derived.Test.YtgnigkghkldcfaaAlive
namespace Go.Proofs.Ytgnigkghkldcfaa
open Go.RowKit Go.Proofs Go.Lib Go.Maps Go.Shelf
attribute [local go_sem] Oper.semAt_some

structure Names7Laid (w w3 : World) (sb : Nat) : Prop where
  b1 : w3.heap[w.heap.size + 1]? = some (.cells #[.slice none 0 0] 44 (0, 0))
  e2 : w3.heap[w.heap.size + 2]? = some (.cells #[] 9 (0, 0))
  b3 : w3.heap[w.heap.size + 3]? = some (.cells #[.slice (some ⟨w.heap.size + 2, 0, none⟩) 0 0] 44 (0, 0))
  b4 : w3.heap[w.heap.size + 4]? = some (.cells #[.pointer (some ⟨sb, 0, none⟩)] 26 (0, 0))
  size : w3.heap.size = w.heap.size + 5
  keep : Keep (fun _ => False) w w3
theorem names7_laid (w : World) (sb : Nat) (most : Int) : Names7Laid w (((((w.alloc (.cells #[.int .i64 most] 3)).alloc (.cells #[.slice none 0 0] 44)).alloc (.cells #[] 9)).alloc
    (.cells #[.slice (some ⟨w.heap.size + 1 + 1, 0, none⟩) 0 0] 44)).alloc (.cells #[.pointer (some ⟨sb, 0, none⟩)] 26)) sb := by
  refine ⟨?_, ?_, ?_, ?_, by simp, ((((((Keep.refl _ w).alloc _).alloc _).alloc _).alloc _).alloc _)⟩
  all_goals (repeat' first | exact alloc_at (by simp) _ | refine alloc_blk ?_ _)

set_option maxRecDepth 100000 in
set_option maxHeartbeats 4000000 in
theorem names7_empty {w : World} {cb sb mb : Nat} {f : Value} {S : Nat → Prop} {c : CS} (h : ColdAt w cb sb mb f S c) (he : c.o.row = []) (most : Int) (hm : 0 < most) (hm2 : most ≤ 9223372036854775807) :
    Calls Try.prog 78 #[.pointer (some ⟨cb, 0, none⟩), .int .i64 most] w fun e w' => (∃ x, e = .returned (.slice x 0 0)) ∧ Keep (fun _ => False) w w' := by
  obtain ⟨G, hO, -, -, -, -⟩ := h.st
  have c0 : w.cell? ⟨cb, 0, none⟩ = some (.pointer (some ⟨sb, 0, none⟩)) := by rw [cell_blk h.blk]; rfl
  have hsb := lt_blk hO.blk
  have hmb := MapP.lt hO.map
  have hcb := h.lt.1
  have c0' : ((((w.alloc (.cells #[.int .i64 most] 3)).alloc (.cells #[.slice none 0 0] 44)).alloc (.cells #[] 9)).alloc (.cells #[.slice (some ⟨w.heap.size + 1 + 1, 0, none⟩) 0 0] 44)).cell? ⟨cb, 0, none⟩ = some (.pointer (some ⟨sb, 0, none⟩)) := by
    rw [cell_blk (((((Keep.refl (fun _ => False) w).alloc _).alloc _).alloc _).alloc _ |>.heap h.blk id)]; rfl
  have hL := names7_laid w sb most
  have hli : c.o.list = [] := by unfold OS.list; rw [he]; rfl
  have HLI := Lib.hid hli
  clear h he hli
  refine (callsIn_wide (n := 9)).1 ?_
  refine callsIn_of_wp_marks Try.func78 rfl trivial ?_ rfl
  simp only [Try.ntmps78, List.size_toArray, List.length_cons, List.length_nil, Nat.reduceAdd, Nat.reduceSub, Array.replicate_succ, Array.replicate_zero, List.push_toArray, List.append_toArray, List.nil_append, List.cons_append]
  gi_wp2_with fail
  refine ⟨trivial, ?_⟩
  refine (callsIn_wide.2 (all_any sb _)).mono ?_
  rintro e w2 ⟨rfl, rfl⟩
  gi_wp2
  obtain ⟨w3, hw3⟩ : ∃ w3, (((((w.alloc (.cells #[.int .i64 most] 3)).alloc (.cells #[.slice none 0 0] 44)).alloc (.cells #[] 9)).alloc
    (.cells #[.slice (some ⟨w.heap.size + 1 + 1, 0, none⟩) 0 0] 44)).alloc (.cells #[.pointer (some ⟨sb, 0, none⟩)] 26)) = w3 := ⟨_, rfl⟩
  rw [hw3] at hL ⊢
  clear hw3
  have hO3 := hO.keep0 hL.keep
  have hQ : ∀ k, (k = sb ∨ k = G.mb ∨ k = w.heap.size + 4) → k < w3.heap.size := by
    rintro k (rfl | rfl | rfl)
    · have := hL.size; omega
    · have := hL.size; omega
    · have := hL.size; omega
  simp only [Nat.add_assoc, Nat.reduceAdd]
  refine wp_range (n := 9) (gf := 107) (lb := #[.pointer (some ⟨w.heap.size + 4, 0, none⟩)]) (encs := encN) (xs := c.o.list) (Qb := fun k => k = sb ∨ k = G.mb ∨ k = w.heap.size + 4) rfl (fun _ _ => rfl) hQ
      (fun W hb => all1_iter _ sb G c.o _ W (hO3.below hb) ((hb.block _ (by rw [hL.size]; omega)).trans hL.b4)) (fun _ => rfl)
      (fun Pv pre W => Keep (fun _ => False) w3 W)
      (fun c pre W => False) ?i0 ?ip ?ixp ?a1 ?assign ?body ?done ?stop
  case assign =>
    intro l x W K hK
    gi_wp2
    exact hK
  case i0 => intro W Pv hb hPv; exact Keep.of_below hb _
  case ip =>
    intro Pv pre W r o' J hl
    have hk : Keep (· = w3.heap.size + 1) W (W.putObj (w3.heap.size + 1) o') := ⟨rfl, rfl, rfl, by rw [World.putObj_size]; exact Nat.le_refl _, fun k _ hn => World.putObj_heap_other (fun e => hn e)⟩
    exact J.trans' hk (fun _ _ e => e) (fun i hi e => by omega)
  case ixp => intro c pre W r o' J hl; exact J
  case body =>
    intro l Pv pre x W hl J hpre
    rw [HLI.out] at hpre
    have := hpre.length_le
    simp at this
  case done =>
    intro Pv W J hD
    have b1 := J.heap hL.b1 id
    have b3 := J.heap hL.b3 id
    have b1' := cell_blk b1 0
    have b3' := cell_blk b3 0
    have f1 := frozen_blk b1 0
    simp at b1' b3'
    have HKW := Lib.hid (hL.keep.trans J)
    have HB1 := Lib.hid b1
    have HSZ := Lib.hid hL.size
    have hD2 : (W.setCell ⟨w.heap.size + 1, 0, none⟩ (.slice (some ⟨w.heap.size + 2, 0, none⟩) 0 0)).heap[w3.heap.size]? = some (.deferred (some [])) := by
      rw [Below.heap_setCell _ _ _ _ (by show w3.heap.size ≠ w.heap.size + 1; have := HSZ.out; omega)]; exact hD
    have HD := Lib.hid hD2
    clear J hL hD2 hD b1 b3
    gi_wp2_with fail
    refine ⟨by simp, .inl ⟨_, _, rfl, run_takeDeferred HD.out, ?_⟩⟩
    have hk5 : Keep (· = w3.heap.size) (W.setCell ⟨w.heap.size + 1, 0, none⟩ (.slice (some ⟨w.heap.size + 2, 0, none⟩) 0 0)) ((W.setCell ⟨w.heap.size + 1, 0, none⟩ (.slice (some ⟨w.heap.size + 2, 0, none⟩) 0 0)).putObj w3.heap.size (.deferred none)) := ⟨rfl, rfl, rfl, by rw [World.putObj_size]; exact Nat.le_refl _, fun k _ hn => World.putObj_heap_other (fun e => hn e)⟩
    have E2 : ((W.setCell ⟨w.heap.size + 1, 0, none⟩ (.slice (some ⟨w.heap.size + 2, 0, none⟩) 0 0)).putObj w3.heap.size (.deferred none)).cell? ⟨w.heap.size + 1, 0, none⟩ = some (.slice (some ⟨w.heap.size + 2, 0, none⟩) 0 0) := by rw [cell_blk (hk5.heap (set_blk HB1.out 0 _) (by have := HSZ.out; omega))]; rfl
    refine ⟨.slice (some ⟨w.heap.size + 2, 0, none⟩) 0 0, by simp [results, Try.results78, go_sem, E2], ⟨_, rfl⟩, ?_⟩
    exact (HKW.out.trans' ((Keep.refl (fun k => k = w.heap.size + 1) W).setCell (p := ⟨w.heap.size + 1, 0, none⟩) (fun _ => rfl) _) (fun _ _ e => e) (fun i hi e => by omega)).trans' hk5 (fun _ _ e => e) (fun i hi e => by have := HSZ.out; omega)
  case stop => intro c pre W hpre h; exact h.elim
end Go.Proofs.Ytgnigkghkldcfaa
