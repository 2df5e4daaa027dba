/-
  coldstorelaw19.RetainTags: true.
-/
import Derived.Test.YtgnigkghkldcfaaRTags1
import Derived.Great.BuildSlice
namespace Go.Proofs.Ytgnigkghkldcfaa
open Go.RowKit Go.Proofs Go.Lib Go.Maps Go.Sort Go.Shelf

theorem infoSnapZ : (Try.prog.info? 108).map (fun i => (i.zero, i.size, i.bytes)) = some (some (.agg (snapCells ⟨0, [], [], List.replicate 32 0, 0, 0⟩).toArray), 37, 88) := by kernel_rfl
/-- a slice of one snapshot, made -/
theorem wpList_build_snap {ops : Array Oper} {rest : List Oper} {o : Oper} {a : Act} {W : World} {Q : Exit → Act → World → Prop} (hg : o.guard = none) (x : Operand) (ho : o.op = .buildSlice 93 1 #[(0, x)]) (A : Array Value) (hx : a.eval x = .agg A) (hA : A.size = 37)
    (h : wpList Try.prog ops Q rest (a.put o.dst (.slice (some ⟨W.heap.size, 0, none⟩) 1 1)) (W.alloc (.cells A 108))) : wpList Try.prog ops Q (o :: rest) a W := by
  obtain ⟨i0, hi, hz0, hz1, hz2⟩ := info_parts infoSnapZ
  refine wpList_buildSlice hg 93 108 1 #[(0, x)] ho A i0 _ Try.underlying93 hi hz0 (by rw [hz1]; decide) (by rw [hz1]; decide) ?_ h
  have h1 := Great.fill_whole (s := 37) (by decide) [.agg A] ((Array.range (1 * 37)).map ((Value.agg (snapCells ⟨0, [], [], List.replicate 32 0, 0, 0⟩).toArray).cells[· % (Value.agg (snapCells ⟨0, [], [], List.replicate 32 0, 0, 0⟩).toArray).cells.size]!))
    (by intro v hv; simp at hv; subst hv; exact hA) (by simp)
  rw [hz1]
  have e1 : (#[(0, x)].map fun (i, x) => (i, a.eval x)).toList = ([Value.agg A].zipIdx 0).map fun x => (x.2, x.1) := by simp [hx]
  have e2 : ([Value.agg A].flatMap fun v => v.cells.toList).toArray = A := by simp [Value.cells]
  rw [e1, h1, e2]

set_option maxRecDepth 100000 in
set_option maxHeartbeats 8000000 in
theorem rtags_short {w : World} {v : Value} {L : List SnapR} (hL : SnapsAt w v L) (hOK : ∀ s ∈ L, SnapOK s) (h30 : L.length ≤ 30) {tl : Bs} (htl : tl ≠ []) (within : Int) :
    Calls Try.prog 14 #[v, strV tl, .int .i64 within] w fun e w' => e = .returned (.bool true) ∧ Keep (fun _ => False) w w' := by
  obtain ⟨va, vc, rfl⟩ : ∃ a c, v = .slice a L.length c := let ⟨_, a, c, e, _⟩ := hL; ⟨a, c, e⟩
  obtain ⟨Wm, eW, -, hW1', hW2'⟩ := mask_in 50 (by decide) 1125899906842623 (by decide) within
  simp only [Nat.reducePow] at hW2'
  have hWm : 0 ≤ Wm ∧ Wm ≤ 1125899906842623 := by omega
  clear hW1' hW2'
  obtain ⟨hW1, hW2⟩ := hWm
  obtain ⟨N, hN⟩ : ∃ N, N = L.length := ⟨_, rfl⟩
  rw [← hN] at hL h30 ⊢
  have n30 : (N : Int) ≤ 30 := by omega
  obtain ⟨tp, htp⟩ : ∃ tp, tp = (⟨tl.toArray⟩ : ByteArray) := ⟨_, rfl⟩
  have hne : tp.toList.isEmpty = false := by rw [htp, toList_data]; cases tl; exact absurd rfl htl; rfl
  unfold strV
  rw [← htp]
  have HL := Lib.hid hL; have HOK := Lib.hid hOK; have HTL := Lib.hid htl; have HTP := Lib.hid htp; have HN := Lib.hid hN
  obtain ⟨i0, hi, hz0, hz1, hz2⟩ := info_parts infoSnapZ
  clear hL hOK htl htp hN
  go_enter Try.func14, Try.ntmps14
  go_wp2_with fail
  refine (alive19_any w).mono ?_
  rintro e w1 ⟨rfl, k1⟩
  have HL1 := Lib.hid (HL.out.keep k1 (fun _ _ e => e)); have K1 := Lib.hid k1
  clear k1 HL
  go_wp2
  have own0 : (w1.alloc (.cells #[] 108)).ownsRow w1.heap.size 108 37 (.slice (some ⟨w1.heap.size, 0, none⟩) 0 0) 0 ((maskL L 0).flatMap snapCells) :=
    ⟨rfl, .inr ⟨_, 0, #[], rfl, Nat.le_refl _, alloc_new _ _, Nat.le_refl _, Nat.zero_le _, rfl, rfl⟩⟩
  have top0 : TopI (maskL L 0) 0 := ⟨Int.le_refl _, by decide, fun s hs => (by cases hs), .inl rfl⟩
  go_loopg [7, 8, 29] N (fun g v7 v8 v29 wr => ∃ (k : Nat) (t : Int), k ≤ N ∧ g = N - k ∧ v29 = .int .i64 k ∧ v8 = .int .i64 t ∧ Hid (TopI (maskL L k) t) ∧ Hid (k = 0 → t = 0) ∧ Hid (wr.ownsRow w1.heap.size 108 37 v7 k ((maskL L k).flatMap snapCells)) ∧ Hid (Keep (fun _ => False) w1 wr))
  case atStart => exact ⟨0, 0, Nat.zero_le _, rfl, rfl, rfl, top0, fun _ => rfl, own0, (Keep.refl _ _).alloc _⟩
  case round =>
    clear own0 top0
    obtain ⟨k, t, hk, hg, rfl, rfl, HT, HZ, HOW, HKP⟩ := hrel
    by_cases hlt : k < N
    · obtain ⟨s, hs⟩ : ∃ s, L[k]? = some s := ⟨_, List.getElem?_eq_getElem (by rw [← HN.out]; exact hlt)⟩
      obtain ⟨bb, oo, cc, ev, _, _⟩ := Sl.base (HL1.out.keep HKP.out (fun _ _ e => e)) (by rw [← HN.out]; omega)
      rw [← HN.out] at ev
      cases ev
      have hld := SnapsAt.load (HL1.out.keep HKP.out (fun _ _ e => e)) (ok32 HOK.out) hs
      have hsok := HOK.out s (List.mem_of_getElem? hs)
      obtain ⟨T, eT, eT2, hT1', hT2'⟩ := mask_in 50 (by decide) 1125899906842623 (by decide) s.time
      simp only [Nat.reducePow] at hT2' eT2
      have hT : 0 ≤ T ∧ T ≤ 1125899906842623 := by omega
      obtain ⟨hT1, hT2⟩ := hT
      obtain ⟨A, hA⟩ : ∃ A, A = (snapCells s).toArray := ⟨_, rfl⟩
      obtain ⟨A2, hA2⟩ : ∃ A2, A2 = (snapCells (maskS s)).toArray := ⟨_, rfl⟩
      have hset : A.setIfInBounds 0 (.int .i64 T) = A2 := by rw [hA, hA2, eT2]; rfl
      have a0 : A[0]? = some (.int .i64 s.time) := by rw [hA]; rfl
      have az : A.size = 37 := by rw [hA]; simpa using snapCells_len hsok.1
      have az2 : A2.size = 37 := by rw [hA2]; simpa using snapCells_len (s := maskS s) hsok.1
      have a1 : A.all (·.oneCell') = true := by rw [hA]; exact snap_one s
      have one2 : ∀ u ∈ A2.toList, u.oneCell' = true := by
        have := snap_one (maskS s)
        rw [← hA2, ← Array.all_toList, List.all_eq_true] at this
        exact this
      have hia : (Try.prog.info? 108).map (·.size) = some A.size := by rw [az]; exact infoSnap
      have hia2 : (Try.prog.info? 108).map (·.size) = some A2.size := by rw [az2]; exact infoSnap
      rw [← hA] at hld
      have hstep : (maskL L (k + 1)).flatMap snapCells = (maskL L k).flatMap snapCells ++ A2.toList := by rw [maskL_step hs, List.flatMap_append, hA2]; simp
      have htop := HT.out.step (s := maskS s) (mask_time s).1 (mask_time s).2 (fun e => HZ.out (by have := maskL_len L (k := k) (by rw [← HN.out]; exact hk); rw [e] at this; exact this.symm))
      rw [← maskL_step hs, show (maskS s).time = T by rw [eT2]; rfl] at htop
      obtain ⟨st, hst⟩ : ∃ st, st = s.time := ⟨_, rfl⟩
      rw [← hst] at a0 eT
      have i1 : (0 : Int) ≤ k := by omega
      have i2 : (k : Int) < N := by omega
      have n4 : k + 1 ≤ maxLen := by unfold maxLen; omega
      have n5 : (k + 1) * 88 ≤ 140737488355328 := by omega
      obtain ⟨va1, vc1, rfl⟩ := own_slice HOW.out
      have hlo : ∀ x, vblk (.slice va1 k vc1) = some x → w1.heap.size ≤ x := fun x e => (own_lt HOW.out x e).1
      have hsz := HKP.out.size
      have HAF := Lib.hid (fun (O : Obj) (W2 : World) (K2 : Keep (· = wr.heap.size) (wr.alloc O) W2) => (show W2.ownsRow w1.heap.size 108 37 (.slice va1 k vc1) k ((maskL L k).flatMap snapCells) ∧ Keep (fun _ => False) w1 W2 from
        ⟨own_keep (HOW.out.alloc O) K2 (fun g e h => by have := (own_lt HOW.out g e).2; omega), (HKP.out.alloc O).trans' K2 (fun _ _ e => e) (fun i hi e => by omega)⟩))
      have HG := Lib.hid hg; have HLO := Lib.hid hlo; have ONE := Lib.hid one2; have N4 := Lib.hid n4; have N5 := Lib.hid n5; have HLD := Lib.hid hld; have HIA := Lib.hid hia; have HIA2 := Lib.hid hia2; have HAZ := Lib.hid az; have HAZ2 := Lib.hid az2; have HA1 := Lib.hid a1; have HA0 := Lib.hid a0; have HSET := Lib.hid hset; have HST := Lib.hid hstep; have HTOP := Lib.hid htop
      clear hg hlo one2 n4 n5 hld hia hia2 az az2 a1 a0 hset hstep htop hs hsok hA hA2 hst eT2 HT HZ hT1' hT2' hk hlt
      go_wp2_with (first
        | (refine wpList_load_run rfl 108 (.tmp 31) rfl _ rfl _ HLD.out ?_)
        | (refine wpList_store_box rfl 108 (.tmp 10) (.tmp 32) rfl wr.heap.size A (by rfl) (by rfl) (alloc_new _ _) HIA.out (by rw [HAZ.out]; kernel_rfl) HA1.out ?_; intro W2 hB2 kB2; have c0 := (cell_blk hB2 0).trans HA0.out; have f0 := frozen_blk hB2 0
           have hld2 := load_box (P := Try.prog) (ty := 108) (show (W2.setCell ⟨wr.heap.size, 0, none⟩ (.int .i64 T)).heap[wr.heap.size]? = some (.cells A2 108 (0, 0)) by rw [set_blk hB2, HSET.out]) Try.underlying108 rfl HIA2.out
           have HLD2 := Lib.hid hld2
           obtain ⟨ow2, kp2⟩ := HAF.out _ _ (kB2.trans ((Keep.refl (· = wr.heap.size) W2).setCell (p := ⟨wr.heap.size, 0, none⟩) (fun _ => rfl) (.int .i64 T))); have HOW2 := Lib.hid ow2; have HKP2 := Lib.hid kp2; clear ow2 kp2 hB2 kB2 hld2)
        | (refine wpList_load_run rfl 108 (.tmp 10) rfl _ rfl _ HLD2.out ?_)
        | (obtain ⟨W3, hW3⟩ : ∃ W3, W3 = W2.setCell ⟨wr.heap.size, 0, none⟩ (.int .i64 T) := ⟨_, rfl⟩; rw [← hW3]; rw [← hW3] at HOW2 HKP2; clear hW3 HLD2 c0 f0; refine wpList_build_snap rfl (.tmp 42) rfl A2 rfl HAZ2.out ?_)
        | (at_builtin; (refine wpList_append_sl rfl (.tmp 41) (.tmp 43) 93 rfl w1.heap.size 108 i0 _ 37 88 Try.underlying93 hi hz0 hz1 hz2 rfl (by decide) (.slice va1 k vc1) k ((maskL L k).flatMap snapCells) rfl (HOW2.out.alloc _) _ 1 A2.toList rfl (sl_made _ 37 1 A2 108 HAZ2.out (by decide)) ONE.out N4.out N5.out (by have := HKP2.out.size; simp; omega) ?_); intro v8 Y1 hown1 hk1 hb1; obtain ⟨g1, c1, e1, O1, KX1, B1, Z1⟩ := own_next (HKP2.out.alloc _) HLO.out hown1 hk1 hb1; subst e1; clear hown1 hk1 hb1))
      go_roundg (N - (k + 1))
      case measure => have := HG.out; omega
      case rel => exact ⟨k + 1, max t T, by omega, rfl, by go_num, rfl, HTOP.out, fun e => (by omega), by rw [HST.out]; exact O1.out, KX1.out⟩
    · have hkN : k = N := by omega
      subst hkN
      obtain ⟨O, hO⟩ : ∃ O, O = maskL L k := ⟨_, rfl⟩
      have hOl : O.length = k := by rw [hO]; exact maskL_len L (by rw [← HN.out]; exact Nat.le_refl _)
      have hOok : ∀ s ∈ O, SnapOK s := by rw [hO]; exact mask_ok HOK.out
      have hOb : ∀ s ∈ O, 0 ≤ s.time ∧ s.time ≤ 1125899906842623 := by rw [hO]; exact fun s hs => maskL_mem hs
      have hT := HT.out
      obtain ⟨va2, vc2, rfl⟩ := own_slice HOW.out
      have hSO : SnapsAt wr (.slice va2 k vc2) O := by
        have := (Sl.of_owns HOW.out).1
        unfold SnapsAt
        rw [hOl, hO]; exact this
      rw [← hO] at hT
      have hTlo := hT.lo
      have hThi := hT.hi
      obtain ⟨P, hP⟩ := places_ex O
      have hone : O ≠ [] → ∃ s ∈ O, s.time = t := fun h => by
        rcases hT.one with e | e
        · exact absurd e h
        · exact e
      have HKA := Lib.hid (fun (W : World) (h : SnapsAt W (.slice va2 k vc2) O) => keep_at (p := ⟨0, 0, 0, 0, tl⟩) h hOok (by omega) (by unfold In64; dsimp only; omega) (by unfold In64; dsimp only; omega) (by unfold In64; dsimp only; omega) hP (days_none O (by dsimp only; omega)))
      have HKB := Lib.hid (fun (W : World) (h : SnapsAt W (.slice va2 k vc2) O) => keep_at (p := ⟨0, 0, 0, Wm, []⟩) h hOok (by omega) (by unfold In64; dsimp only; omega) (by unfold In64; dsimp only; omega) (by unfold In64; dsimp only; omega) hP (days_none O (by dsimp only; omega)))
      have HKC := Lib.hid (fun (W : World) (h : SnapsAt W (.slice va2 k vc2) O) => keep_at (p := ⟨0, 0, 0, Wm, tl⟩) h hOok (by omega) (by unfold In64; dsimp only; omega) (by unfold In64; dsimp only; omega) (by unfold In64; dsimp only; omega) hP (days_none O (by dsimp only; omega)))
      have hat : ∀ (i : Nat) (s : SnapR), O[i]? = some s → (keepB O P ⟨0, 0, 0, 0, tl⟩ [])[i]? = some (s.tag == tl) ∧ (keepB O P ⟨0, 0, 0, Wm, []⟩ [])[i]? = some (decide (0 < Wm) && decide (t - s.time < Wm)) ∧ (keepB O P ⟨0, 0, 0, Wm, tl⟩ [])[i]? = some (s.tag == tl || (decide (0 < Wm) && decide (t - s.time < Wm))) := fun i s h =>
        have hne : O ≠ [] := fun e => by rw [e] at h; simp at h
        ⟨tag_at hP HTL.out h, near_at hP hT.all (hone hne) h, both_at hP HTL.out hT.all (hone hne) h⟩
      rw [hOl] at HKA HKB HKC
      unfold polCells strV at HKA HKB HKC
      dsimp only [List.toArray] at HKA HKB HKC
      rw [show (⟨tl.toArray⟩ : ByteArray) = tp from HTP.out.symm] at HKA HKC
      obtain ⟨A, hAe⟩ : ∃ A, A = keepB O P ⟨0, 0, 0, 0, tl⟩ [] := ⟨_, rfl⟩
      obtain ⟨B, hBe⟩ : ∃ B, B = keepB O P ⟨0, 0, 0, Wm, []⟩ [] := ⟨_, rfl⟩
      obtain ⟨C, hCe⟩ : ∃ C, C = keepB O P ⟨0, 0, 0, Wm, tl⟩ [] := ⟨_, rfl⟩
      rw [← hAe] at HKA; rw [← hBe] at HKB; rw [← hCe] at HKC
      rw [← hAe, ← hBe, ← hCe] at hat
      have HAT := Lib.hid hat; have HOO := Lib.hid hOok; have HOB := Lib.hid hOb; have HOL := Lib.hid hOl
      have HSO := Lib.hid hSO; have HKP1 := Lib.hid (K1.out.trans HKP.out)
      clear hat hOok hOb hOl hSO hAe hBe hCe hT hone hP hO HT HZ HOW HKP hg hk hlt HL1
      go_wp2_with fail
      refine (HKA.out _ HSO.out).mono ?_
      rintro e w3 ⟨ga, ca, rfl, k3, ba⟩
      have HBA := Lib.hid ba; have HL3 := Lib.hid (HSO.out.keep k3 (fun _ _ e => e)); have K3 := Lib.hid (HKP1.out.trans k3)
      clear k3 ba HSO HKP1
      go_wp2_with fail
      refine (HKB.out _ HL3.out).mono ?_
      rintro e w4 ⟨gb, cb, rfl, k4, bb⟩
      have HBA4 := Lib.hid (HBA.out.keep k4 id); have HBB4 := Lib.hid bb; have HL4 := Lib.hid (HL3.out.keep k4 (fun _ _ e => e)); have K4 := Lib.hid (K3.out.trans k4)
      clear k4 bb HL3 K3 HBA
      go_wp2_with fail
      refine (HKC.out _ HL4.out).mono ?_
      rintro e w5 ⟨gc, cc, rfl, k5, bc⟩
      have HBA5 := Lib.hid (HBA4.out.keep k5 id); have HBB5 := Lib.hid (HBB4.out.keep k5 id); have HBC5 := Lib.hid bc; have HL5 := Lib.hid (HL4.out.keep k5 (fun _ _ e => e)); have K5 := Lib.hid (K4.out.trans k5)
      clear k5 bc HL4 K4 HBA4 HBB4 HKA HKB HKC
      go_wp2
      go_loopg [63] k (fun g v63 wr => ∃ i : Nat, i ≤ k ∧ g = k - i ∧ v63 = .int .i64 i ∧ Hid (Keep (fun _ => False) w5 wr))
      case atStart => exact ⟨0, Nat.zero_le _, rfl, rfl, Keep.refl _ _⟩
      case round =>
        obtain ⟨i, hi, hg, rfl, HKW⟩ := hrel
        by_cases hlt : i < k
        · obtain ⟨s, hs⟩ : ∃ s, O[i]? = some s := ⟨_, List.getElem?_eq_getElem (by rw [HOL.out]; exact hlt)⟩
          have hSl := HL5.out.keep HKW.out (fun _ _ e => e)
          obtain ⟨bb, oo, cc', ev, _, _⟩ := Sl.base hSl (by rw [HOL.out]; omega)
          rw [HOL.out] at ev
          cases ev
          have hld := SnapsAt.load hSl (ok32 HOO.out) hs
          obtain ⟨hA, hB, hC⟩ := HAT.out i s hs
          have cA := fun (W : World) (K : Keep (fun _ => False) w5 W) => (HBA5.out.keep K id).at hA
          have cB := fun (W : World) (K : Keep (fun _ => False) w5 W) => (HBB5.out.keep K id).at hB
          have cC := fun (W : World) (K : Keep (fun _ => False) w5 W) => (HBC5.out.keep K id).at hC
          have hsok := HOO.out s (List.mem_of_getElem? hs)
          obtain ⟨A1, hA1⟩ : ∃ A1, A1 = (snapCells s).toArray := ⟨_, rfl⟩
          have a0 : A1[0]? = some (.int .i64 s.time) := by rw [hA1]; rfl
          have a2 : A1[2]? = some (strV s.tag) := by rw [hA1]; rfl
          have az : A1.size = 37 := by rw [hA1]; simpa using snapCells_len hsok.1
          have a1 : A1.all (·.oneCell') = true := by rw [hA1]; exact snap_one s
          have hia : (Try.prog.info? 108).map (·.size) = some A1.size := by rw [az]; exact infoSnap
          rw [← hA1] at hld
          obtain ⟨ts, hts⟩ : ∃ ts, ts = (⟨s.tag.toArray⟩ : ByteArray) := ⟨_, rfl⟩
          unfold strV at a2
          rw [← hts] at a2
          obtain ⟨x, hx⟩ : ∃ x, x = (s.tag == tl) := ⟨_, rfl⟩
          have hx2 : (ts.toList == tp.toList) = x := by rw [hx, hts, HTP.out, toList_data, toList_data]
          have hst := hsok.2.1
          unfold In64 at hst
          obtain ⟨st, hst2⟩ : ∃ st, st = s.time := ⟨_, rfl⟩
          rw [← hx] at cA cC
          rw [← hst2] at a0 cB cC hst
          have hob := HOB.out s (List.mem_of_getElem? hs)
          rw [← hst2] at hob
          have hw0 : IntKind.i64.wrap (t - st) = t - st := by rw [IntKind.wrap_i64]; omega
          have i1 : (0 : Int) ≤ i := by omega
          have i2 : (i : Int) < k := by omega
          obtain ⟨y, hy⟩ : ∃ y, y = (decide (0 < Wm) && decide (t - st < Wm)) := ⟨_, rfl⟩
          rw [← hy] at cB cC
          have hcase : (0 < Wm ∧ t - st < Wm ∧ y = true) ∨ (0 < Wm ∧ ¬ t - st < Wm ∧ y = false) ∨ (¬ 0 < Wm ∧ y = false) := by
            by_cases h1 : 0 < Wm
            · by_cases h2 : t - st < Wm
              · exact .inl ⟨h1, h2, by rw [hy]; simp [h1, h2]⟩
              · exact .inr (.inl ⟨h1, h2, by rw [hy]; simp [h1, h2]⟩)
            · exact .inr (.inr ⟨h1, by rw [hy]; simp [h1]⟩)
          have HG := Lib.hid hg; have HLD := Lib.hid hld; have HIA := Lib.hid hia; have HAZ := Lib.hid az; have HA1 := Lib.hid a1; have HA0 := Lib.hid a0; have HA2 := Lib.hid a2; have HCA := Lib.hid cA; have HCB := Lib.hid cB; have HCC := Lib.hid cC
          have HAF := Lib.hid (fun (Ob : Obj) (W2 : World) (K2 : Keep (· = wr.heap.size) (wr.alloc Ob) W2) => (show Keep (fun _ => False) w5 W2 from (HKW.out.alloc Ob).trans' K2 (fun _ _ e => e) (fun i hi e => by have := HKW.out.size; omega)))
          have HLT := Lib.hid hlt
          clear hg hld hia az a1 a0 a2 cA cB cC hs hA hB hC hSl hA1 hts hx hst2 hy hsok hst hob hi hlt HAT HOB
          cases x
          case false =>
            rcases hcase with ⟨hp, hq, rfl⟩ | ⟨hp, hq, rfl⟩ | ⟨hp, rfl⟩
            all_goals
              go_wp2_with (first | (refine wpList_load_run rfl 108 (.tmp 66) rfl _ rfl _ HLD.out ?_) | (refine wpList_store_box rfl 108 (.tmp 15) (.tmp 67) rfl wr.heap.size A1 (by rfl) (by rfl) (alloc_new _ _) HIA.out (by rw [HAZ.out]; kernel_rfl) HA1.out ?_; intro W2 hB2 kB2; have c0 := (cell_blk hB2 0).trans HA0.out; have c2 := (cell_blk hB2 2).trans HA2.out; have kp2 := HAF.out _ W2 kB2; have z1 := HCA.out W2 kp2; have z2 := HCB.out W2 kp2; have z3 := HCC.out W2 kp2; have HKP2 := Lib.hid kp2; clear kp2 hB2 kB2))
              refine wp_region_still_lit (by kernel_rfl) (by kernel_rfl) ?_
              iterate 27 (with_reducible refine still_at ?hw (fun K hK => ?_); (case hw => kernel_rfl); go_simp; with_reducible refine hK _ ?_; clear hK K)
              iterate 7 (with_reducible refine still_at ?hw (fun K hK => ?_); (case hw => kernel_rfl); go_simp; with_reducible refine hK _ ?_; clear hK K)
              with_reducible refine wpStill_nil ?_
              go_wp2
              go_roundg (k - (i + 1))
              case measure => have := HG.out; have := HLT.out; omega
              case rel => exact ⟨i + 1, HLT.out, rfl, by go_num, HKP2.out.drew⟩
          case true =>
            rcases hcase with ⟨hp, hq, rfl⟩ | ⟨hp, hq, rfl⟩ | ⟨hp, rfl⟩
            all_goals
              go_wp2_with (first | (refine wpList_load_run rfl 108 (.tmp 66) rfl _ rfl _ HLD.out ?_) | (refine wpList_store_box rfl 108 (.tmp 15) (.tmp 67) rfl wr.heap.size A1 (by rfl) (by rfl) (alloc_new _ _) HIA.out (by rw [HAZ.out]; kernel_rfl) HA1.out ?_; intro W2 hB2 kB2; have c0 := (cell_blk hB2 0).trans HA0.out; have c2 := (cell_blk hB2 2).trans HA2.out; have kp2 := HAF.out _ W2 kB2; have z1 := HCA.out W2 kp2; have z2 := HCB.out W2 kp2; have z3 := HCC.out W2 kp2; have HKP2 := Lib.hid kp2; clear kp2 hB2 kB2))
              refine wp_region_still_lit (by kernel_rfl) (by kernel_rfl) ?_
              iterate 27 (with_reducible refine still_at ?hw (fun K hK => ?_); (case hw => kernel_rfl); go_simp; with_reducible refine hK _ ?_; clear hK K)
              (iterate 4 (with_reducible refine skip_at ?hw ?_; case hw => kernel_rfl))
              iterate 3 (with_reducible refine still_at ?hw (fun K hK => ?_); (case hw => kernel_rfl); go_simp; with_reducible refine hK _ ?_; clear hK K)
              with_reducible refine wpStill_nil ?_
              go_wp2
              go_roundg (k - (i + 1))
              case measure => have := HG.out; have := HLT.out; omega
              case rel => exact ⟨i + 1, HLT.out, rfl, by go_num, HKP2.out.drew⟩
        · have hik : i = k := by omega
          subst hik
          have HKF := Lib.hid (K5.out.trans HKW.out)
          clear hg hi hlt HKW K5 HBA5 HBB5 HBC5 HL5
          go_wp2
          go_ret
          exact ⟨rfl, HKF.out⟩

set_option maxRecDepth 100000 in
theorem rtags_any {w : World} {v : Value} {L : List SnapR} (hL : SnapsAt w v L) (hOK : ∀ s ∈ L, SnapOK s) (tag : ByteArray) (_ht : tag.size ≤ maxLen) (within : Int) (_hw : -9223372036854775808 ≤ within ∧ within ≤ 9223372036854775807) :
    Calls Try.prog 14 #[v, .string tag, .int .i64 within] w fun e w' => e = .returned (.bool true) ∧ Keep (fun _ => False) w w' := by
  obtain ⟨tl, rfl⟩ : ∃ tl : Bs, tag = ⟨tl.toArray⟩ := ⟨tag.data.toList, by simp⟩
  by_cases h : L.length ≤ 30
  · by_cases ht : tl = []
    · subst ht
      obtain ⟨va, vc, rfl⟩ : ∃ p k, v = .slice p L.length k := let ⟨_, p, k, e, _⟩ := hL; ⟨p, k, e⟩
      have h' : (L.length : Int) ≤ 30 := by omega
      clear h hL
      go_enter Try.func14, Try.ntmps14
      go_wp2_with fail
      refine (alive19_any w).mono ?_
      rintro e w1 ⟨rfl, k1⟩
      go_wp2
      go_ret
      exact ⟨rfl, k1⟩
    · exact rtags_short hL hOK h ht within
  · obtain ⟨va, vc, rfl⟩ : ∃ p k, v = .slice p L.length k := let ⟨_, p, k, e, _⟩ := hL; ⟨p, k, e⟩
    have h' : ¬ (L.length : Int) ≤ 30 := by omega
    clear h hL
    go_enter Try.func14, Try.ntmps14
    go_wp2_with fail
    refine (alive19_any w).mono ?_
    rintro e w1 ⟨rfl, k1⟩
    go_wp2
    go_ret
    exact ⟨rfl, k1⟩
end Go.Proofs.Ytgnigkghkldcfaa
