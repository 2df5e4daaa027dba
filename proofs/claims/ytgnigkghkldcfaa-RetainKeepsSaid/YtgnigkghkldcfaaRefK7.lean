/-
  coldstorelaw19.as: the list as the document's.
-/
import Derived.Test.YtgnigkghkldcfaaRefK6
import Derived.Great.BuildSlice
namespace Go.Proofs.Ytgnigkghkldcfaa
open Go.RowKit Go.Proofs Go.Lib Go.Maps Go.Sort Go.Shelf

theorem infoRSnapZ : (Try.prog.info? 161).map (fun i => (i.zero, i.size, i.bytes)) = some (some (.agg (snapCells ⟨0, [], [], List.replicate 32 0, 0, 0⟩).toArray), 37, 88) := by kernel_rfl
/-- a slice of one snapshot of the document's, made -/
theorem wpList_build_rsnap {ops : Array Oper} {rest : List Oper} {o : Oper} {a : Act} {W : World} {Q : Exit → Act → World → Prop} (hg : o.guard = none) (x : Operand) (ho : o.op = .buildSlice 98 1 #[(0, x)]) (A : Array Value) (hx : a.eval x = .agg A) (hA : A.size = 37)
    (h : wpList Try.prog ops Q rest (a.put o.dst (.slice (some ⟨W.heap.size, 0, none⟩) 1 1)) (W.alloc (.cells A 161))) : wpList Try.prog ops Q (o :: rest) a W := by
  obtain ⟨i0, hi, hz0, hz1, hz2⟩ := info_parts infoRSnapZ
  refine wpList_buildSlice hg 98 161 1 #[(0, x)] ho A i0 _ Try.underlying98 hi hz0 (by rw [hz1]; decide) (by rw [hz1]; decide) ?_ h
  have h1 := Great.fill_whole (s := 37) (by decide) [.agg A] ((Array.range (1 * 37)).map ((Value.agg (snapCells ⟨0, [], [], List.replicate 32 0, 0, 0⟩).toArray).cells[· % (Value.agg (snapCells ⟨0, [], [], List.replicate 32 0, 0, 0⟩).toArray).cells.size]!))
    (by intro v hv; simp at hv; subst hv; exact hA) (by simp)
  rw [hz1]
  have e1 : (#[(0, x)].map fun (i, x) => (i, a.eval x)).toList = ([Value.agg A].zipIdx 0).map fun x => (x.2, x.1) := by simp [hx]
  have e2 : ([Value.agg A].flatMap fun v => v.cells.toList).toArray = A := by simp [Value.cells]
  rw [e1, h1, e2]

set_option maxRecDepth 100000 in
set_option maxHeartbeats 8000000 in
theorem as_any {w : World} {v : Value} {L : List SnapR} (hL : SnapsAt w v L) (hOK : ∀ s ∈ L, SnapOK s) (h30 : L.length ≤ 30) :
    Calls Try.prog 56 #[v] w fun e w' => ∃ u, e = .returned u ∧ Keep (fun _ => False) w w' ∧ SnapsAt w' u L := by
  obtain ⟨va, vc, rfl⟩ : ∃ a c, v = .slice a L.length c := let ⟨_, a, c, e, _⟩ := hL; ⟨a, c, e⟩
  obtain ⟨N, hN⟩ : ∃ N, N = L.length := ⟨_, rfl⟩
  rw [← hN] at hL h30 ⊢
  have n30 : (N : Int) ≤ 30 := by omega
  have HL := Lib.hid hL; have HOK := Lib.hid hOK; have HN := Lib.hid hN
  obtain ⟨i0, hi, hz0, hz1, hz2⟩ := info_parts infoRSnapZ
  clear hL hOK hN
  go_enter Try.func56, Try.ntmps56
  go_wp2
  have own0 : (w.alloc (.cells #[] 161)).ownsRow w.heap.size 161 37 (.slice (some ⟨w.heap.size, 0, none⟩) 0 0) 0 ((L.take 0).flatMap snapCells) :=
    ⟨rfl, .inr ⟨_, 0, #[], rfl, Nat.le_refl _, alloc_new _ _, Nat.le_refl _, Nat.zero_le _, rfl, rfl⟩⟩
  go_loopg [3, 9] N (fun g v3 v9 wr => ∃ (k : Nat), k ≤ N ∧ g = N - k ∧ v9 = .int .i64 k ∧ Hid (wr.ownsRow w.heap.size 161 37 v3 k ((L.take k).flatMap snapCells)) ∧ Hid (Keep (fun _ => False) w wr))
  case atStart => exact ⟨0, Nat.zero_le _, rfl, rfl, own0, (Keep.refl _ _).alloc _⟩
  case round =>
    clear own0
    obtain ⟨k, hk, hg, rfl, HOW, HKP⟩ := hrel
    by_cases hlt : k < N
    · obtain ⟨s, hs⟩ : ∃ s, L[k]? = some s := ⟨_, List.getElem?_eq_getElem (by rw [← HN.out]; exact hlt)⟩
      obtain ⟨bb, oo, cc, ev, _, _⟩ := Sl.base (HL.out.keep HKP.out (fun _ _ e => e)) (by rw [← HN.out]; omega)
      rw [← HN.out] at ev
      cases ev
      have hld := SnapsAt.load (HL.out.keep HKP.out (fun _ _ e => e)) (ok32 HOK.out) hs
      have hsok := HOK.out s (List.mem_of_getElem? hs)
      obtain ⟨A, hA⟩ : ∃ A, A = (snapCells s).toArray := ⟨_, rfl⟩
      have az : A.size = 37 := by rw [hA]; simpa using snapCells_len hsok.1
      have a1 : A.all (·.oneCell') = true := by rw [hA]; exact snap_one s
      have one2 : ∀ u ∈ A.toList, u.oneCell' = true := by
        rw [← Array.all_toList, List.all_eq_true] at a1
        exact a1
      have hia : (Try.prog.info? 108).map (·.size) = some A.size := by rw [az]; exact infoSnap
      rw [← hA] at hld
      have hstep : (L.take (k + 1)).flatMap snapCells = (L.take k).flatMap snapCells ++ A.toList := by rw [take_snoc hs, List.flatMap_append, hA]; simp
      have i1 : (0 : Int) ≤ k := by omega
      have i2 : (k : Int) < N := by omega
      have n4 : k + 1 ≤ maxLen := by unfold maxLen; omega
      have n5 : (k + 1) * 88 ≤ 140737488355328 := by omega
      obtain ⟨va1, vc1, rfl⟩ := own_slice HOW.out
      have hlo : ∀ x, vblk (.slice va1 k vc1) = some x → w.heap.size ≤ x := fun x e => (own_lt HOW.out x e).1
      have hsz := HKP.out.size
      have HAF := Lib.hid (fun (O : Obj) (W2 : World) (K2 : Keep (· = wr.heap.size) (wr.alloc O) W2) => (show W2.ownsRow w.heap.size 161 37 (.slice va1 k vc1) k ((L.take k).flatMap snapCells) ∧ Keep (fun _ => False) w W2 from
        ⟨own_keep (HOW.out.alloc O) K2 (fun g e h => by have := (own_lt HOW.out g e).2; omega), (HKP.out.alloc O).trans' K2 (fun _ _ e => e) (fun i hi e => by omega)⟩))
      have HG := Lib.hid hg; have HLO := Lib.hid hlo; have ONE := Lib.hid one2; have N4 := Lib.hid n4; have N5 := Lib.hid n5; have HLD := Lib.hid hld; have HIA := Lib.hid hia; have HAZ := Lib.hid az; have HA1 := Lib.hid a1; have HST := Lib.hid hstep
      clear hg hlo one2 n4 n5 hld hia az a1 hstep hs hsok hA hk hlt
      go_wp2_with (first
        | (refine wpList_load_run rfl 108 (.tmp 11) rfl _ rfl _ HLD.out ?_)
        | (refine wpList_store_box rfl 108 (.tmp 5) (.tmp 12) rfl wr.heap.size A (by rfl) (by rfl) (alloc_new _ _) HIA.out (by rw [HAZ.out]; kernel_rfl) HA1.out ?_; intro W2 hB2 kB2
           have hld2 := load_box (P := Try.prog) (ty := 108) hB2 Try.underlying108 rfl HIA.out
           have HLD2 := Lib.hid hld2
           obtain ⟨ow2, kp2⟩ := HAF.out _ _ kB2; have HOW2 := Lib.hid ow2; have HKP2 := Lib.hid kp2; clear ow2 kp2 hB2 kB2 hld2)
        | (refine wpList_load_run rfl 108 (.tmp 5) rfl _ rfl _ HLD2.out ?_)
        | (clear HLD2; refine wpList_build_rsnap rfl (.tmp 14) rfl A rfl HAZ.out ?_)
        | (at_builtin; (refine wpList_append_sl rfl (.tmp 13) (.tmp 15) 98 rfl w.heap.size 161 i0 _ 37 88 Try.underlying98 hi hz0 hz1 hz2 rfl (by decide) (.slice va1 k vc1) k ((L.take k).flatMap snapCells) rfl (HOW2.out.alloc _) _ 1 A.toList rfl (sl_made _ 37 1 A 161 HAZ.out (by decide)) ONE.out N4.out N5.out (by have := HKP2.out.size; simp; omega) ?_); intro v8 Y1 hown1 hk1 hb1; obtain ⟨g1, c1, e1, O1, KX1, B1, Z1⟩ := own_next (HKP2.out.alloc _) HLO.out hown1 hk1 hb1; subst e1; clear hown1 hk1 hb1))
      go_roundg (N - (k + 1))
      case measure => have := HG.out; omega
      case rel => exact ⟨k + 1, by omega, rfl, by go_num, by rw [HST.out]; exact O1.out, KX1.out⟩
    · have hkN : k = N := by omega
      subst hkN
      obtain ⟨va2, vc2, rfl⟩ := own_slice HOW.out
      have hSO : SnapsAt wr (.slice va2 k vc2) L := by
        have := (Sl.of_owns HOW.out).1
        rw [List.take_of_length_le (by rw [← HN.out]; exact Nat.le_refl _)] at this
        unfold SnapsAt
        rw [← HN.out]; exact this
      have HF := Lib.hid hSO
      clear hSO hg hk hlt HOW
      go_wp2
      go_ret
      exact ⟨_, rfl, HKP.out, HF.out⟩
end Go.Proofs.Ytgnigkghkldcfaa
