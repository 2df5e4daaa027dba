/-
  coldstoreref19.Keep: which are kept, as the document has it.
-/
import Derived.Test.YtgnigkghkldcfaaRefK5
namespace Go.Proofs.Ytgnigkghkldcfaa
open Go.RowKit Go.Proofs Go.Lib Go.Maps Go.Sort Go.Shelf

def wantTo (L : List SnapR) (D : List Int) (p : PolR) (T : Int) (k : Nat) : List Bool := (List.range k).map (wantB L D p T)
theorem wantTo_step (L : List SnapR) (D : List Int) (p : PolR) (T : Int) (k : Nat) : wantTo L D p T (k + 1) = wantTo L D p T k ++ [wantB L D p T k] := by
  unfold wantTo; rw [List.range_succ, List.map_append]; rfl
theorem wantTo_all {L : List SnapR} {P : List Nat} {p : PolR} {D : List Int} (hP : Places L P) (hD : DaysOf L p.day D) : wantTo L D p (rowOf L P)[L.length - 1]!.time L.length = keepB L P p D := by
  apply List.ext_getElem?
  intro i
  by_cases hi : i < L.length
  · rw [keep_want hP hD hi]
    unfold wantTo
    simp [hi]
  · rw [List.getElem?_eq_none (by simp [wantTo]; omega), List.getElem?_eq_none (by rw [keepB_len]; omega)]
theorem has_step {D : List Int} {j : Nat} {d x : Int} (h : D[j]? = some x) : (D.take (j + 1)).contains d = ((D.take j).contains d || x == d) := by
  rw [take_snoc h, List.contains_eq_any_beq, List.contains_eq_any_beq, List.any_append]
  congr 1
  simp only [List.any_cons, List.any_nil, Bool.or_false]
  rw [Bool.eq_iff_iff, beq_iff_eq, beq_iff_eq]
  exact eq_comm

theorem keep_next {Y0 Y1 : World} {v0 v1 : Value} {da : Option Addr} {M dc : Nat} {xs : List Value} (hs : Sl Y0 1 (.slice da M dc) M xs) (hd : 0 < M → ∀ b, vblk v0 = some b → vblk (.slice da M dc) ≠ some b)
    (hk : Keep (fun b => vblk v0 = some b) Y0 Y1) (hb : ∀ b, vblk v1 = some b → vblk v0 = some b ∨ Y0.heap.size ≤ b) : Sl Y1 1 (.slice da M dc) M xs ∧ (0 < M → ∀ b, vblk v1 = some b → vblk (.slice da M dc) ≠ some b) := by
  refine ⟨Sl.keep hs hk (fun b h0 e e2 => hd h0 b e2 e), fun h0 b e e2 => ?_⟩
  rcases hb b e with h | h
  · exact hd h0 b h e2
  · have := Sl.lt hs (by decide) h0 e2; omega

set_option maxRecDepth 100000 in
set_option maxHeartbeats 16000000 in
theorem rkeep_any {w : World} {v : Value} {L : List SnapR} {p : PolR} {P : List Nat} {D : List Int} (hL : SnapsAt w v L) (h32 : Snaps32 L) (ht : ∀ s ∈ L, In64 s.time) (h40 : L.length < 40) (hday : In64 p.day) (hwi : In64 p.within)
    (hP : Places L P) (hD : DaysOf L p.day D) (hDl : D.length < 40) :
    Calls Try.prog 55 #[v, .agg (polCells p)] w fun e w' => ∃ g c, e = .returned (.slice g L.length c) ∧ Keep (fun _ => False) w w' ∧ Sl w' 1 (.slice g L.length c) L.length ((keepB L P p D).map Value.bool) := by
  obtain ⟨va, vc, rfl⟩ : ∃ a c, v = .slice a L.length c := let ⟨_, a, c, e, _⟩ := hL; ⟨a, c, e⟩
  rw [← wantTo_all hP hD]
  obtain ⟨T, hT⟩ : ∃ T, T = (rowOf L P)[L.length - 1]!.time := ⟨_, rfl⟩
  rw [← hT]
  have hdays := fun (W : World) (K : Keep (fun _ => False) w W) => rdaysref_any (hL.keep K (fun _ _ e => e)) h32 ht h40 hday
  have hafter := fun (W : World) (K : Keep (fun _ => False) w W) (k : Nat) (hk : k < L.length) => after_any (hL.keep K (fun _ _ e => e)) h32 hk h40
  have hlatest := fun (W : World) (K : Keep (fun _ => False) w W) (k : Nat) (hk : k < L.length) (h1 : 1 ≤ p.day) => latest_any (hL.keep K (fun _ _ e => e)) h32 ht hk h40 h1 hday
  have htop : ∀ (W : World), Keep (fun _ => False) w W → 0 < L.length → Calls Try.prog 93 #[.slice va L.length vc] W fun e w' => e = .returned (.int .i64 T) ∧ w' = W := fun W K h0 => by
    refine (rtop_any (hL.keep K (fun _ _ e => e)) h32 h0 h40).mono ?_
    rintro e w' ⟨T', rfl, rfl, h1, h2⟩
    rw [hT, top_eq hP h1 h2]; exact ⟨rfl, rfl⟩
  have hnear : ∀ (s : SnapR), s ∈ L → ∀ W : World, Calls Try.prog 92 #[.int .i64 s.time, .int .i64 T, .int .i64 p.within] W fun e w' => e = .returned (.bool (aboveV s.time T p.within)) ∧ w' = W := fun s hs W => by
    obtain ⟨g1, g2⟩ := top_is hP (List.length_pos_of_mem hs)
    rw [← hT] at g1
    have : In64 T := by rw [hT]; exact ht _ g2
    exact rnear_any (ht s hs) this hwi (g1 s hs) W
  have hdaycall := fun (h1 : 1 ≤ p.day) (s : SnapR) (hs : s ∈ L) (W : World) => rday_any (ht s hs) h1 hday W
  have hcell : ∀ (k : Nat) (s : SnapR), L[k]? = some s → ∃ lb lo, va = some ⟨lb, lo, none⟩ ∧ ∀ (W : World), Keep (fun _ => False) w W → W.cell? ⟨lb, lo + k * 37, none⟩ = some (.int .i64 s.time) ∧ W.cell? ⟨lb, lo + k * 37 + 2, none⟩ = some (.string ⟨s.tag.toArray⟩) := fun k s hs => by
    obtain ⟨lb, lo, cc, ev, _, _⟩ := Sl.base hL (by have := (List.getElem?_eq_some_iff.1 hs).1; omega)
    cases ev
    refine ⟨lb, lo, rfl, fun W K => ⟨?_, ?_⟩⟩
    · have := ((hL.keep K (fun _ _ e => e)).range h32 hs) 0 (.int .i64 s.time) rfl
      simpa using this
    · have := ((hL.keep K (fun _ _ e => e)).range h32 hs) 2 (strV s.tag) rfl
      exact this
  obtain ⟨i0, hi, hz0, hz1, hz2⟩ := info_parts info_bool
  obtain ⟨N, hN⟩ : ∃ N, N = L.length := ⟨_, rfl⟩
  rw [← hN] at hdays hafter hlatest htop h40 ⊢
  have HDAYS := Lib.hid hdays; have HAFTER := Lib.hid hafter; have HLATEST := Lib.hid hlatest; have HTOP0 := Lib.hid htop; have HNEAR0 := Lib.hid hnear; have HDC := Lib.hid hdaycall; have HCELL := Lib.hid hcell; have HN := Lib.hid hN; have HD := Lib.hid hD
  have hpp : ∀ (W : World), W.heap[w.heap.size]? = some (.cells (polCells p) 100 (0, 0)) → W.cell? ⟨w.heap.size, 0, none⟩ = some (.int .i64 p.last) ∧ W.cell? ⟨w.heap.size, 1, none⟩ = some (.int .i64 p.days) ∧ W.cell? ⟨w.heap.size, 2, none⟩ = some (.int .i64 p.day) ∧ W.cell? ⟨w.heap.size, 3, none⟩ = some (.int .i64 p.within) ∧ W.cell? ⟨w.heap.size, 4, none⟩ = some (.string ⟨p.tag.toArray⟩) := fun W h => (five_cells h).1
  obtain ⟨tp, htp⟩ : ∃ tp, tp = (⟨p.tag.toArray⟩ : ByteArray) := ⟨_, rfl⟩
  rw [← htp] at hpp
  have HPP := Lib.hid hpp; have HTP := Lib.hid htp
  clear htp
  have hwb : ∀ k, wantB L D p T k = (decide ((afterR L k : Int) < p.last) || (decide (1 ≤ p.day) && latestR L p.day k && (D.take p.days.toNat).contains (L[k]!.time / p.day)) || (aboveV L[k]!.time T p.within || (!(p.tag == ([] : Bs)) && (L[k]!.tag == p.tag)))) := fun k => rfl
  have HWB := Lib.hid hwb
  obtain ⟨pc, hpc⟩ : ∃ pc, pc = polCells p := ⟨_, rfl⟩
  have HPC := Lib.hid hpc
  clear hdays hafter hlatest htop hnear hdaycall hcell hN hL h32 ht hP hD hpp hwb hday hwi hT
  rw [← hpc]
  go_enter Try.func55, Try.ntmps55
  go_wp2_with (refine wpList_box_any rfl 100 (.tmp 1) rfl pc rfl ?_; intro X0 bx0 k0 z0; have HXP := Lib.hid (fun (W : World) (K : Keep (fun _ => False) X0 W) => HPP.out W (K.heap (by rw [← HPC.out]; exact bx0) id)); obtain ⟨y0, y1, y2, y3, y4⟩ := HXP.out X0 (Keep.refl _ _); have K0 := Lib.hid k0; have hlt0 := lt_blk' bx0; have Z0 := Lib.hid z0; clear bx0 k0 z0)
  -- behind the days
  refine (HDAYS.out _ (K0.out.alloc _)).mono ?_
  rintro e W2 ⟨dv, D', rfl, k2, hD', hs2, hf2⟩
  obtain rfl := hD'.eq HD.out
  obtain ⟨da, dc, rfl⟩ : ∃ a c, dv = .slice a D'.length c := let ⟨_, a, c, e, _⟩ := hs2; ⟨a, c, e⟩
  obtain ⟨M, hM⟩ : ∃ M, M = D'.length := ⟨_, rfl⟩
  rw [← hM] at hs2 hf2 hDl ⊢
  have own2 : W2.ownsRow X0.heap.size 4 1 (.slice (some ⟨X0.heap.size, 0, none⟩) 0 0) 0 [] :=
    own_keep (w := X0.alloc (.cells #[] 4)) ⟨rfl, .inr ⟨_, 0, #[], rfl, Nat.le_refl _, alloc_new _ _, Nat.le_refl _, Nat.zero_le _, rfl, rfl⟩⟩ k2 (fun _ _ e => e)
  have dis2 : 0 < M → ∀ b, vblk (.slice (some ⟨X0.heap.size, 0, none⟩) 0 0) = some b → vblk (.slice da M dc) ≠ some b := fun _ b e e2 => by
    have := hf2 b e2; simp [vblk] at e this; omega
  have kx2 : Keep (fun _ => False) X0 W2 := ((Keep.refl _ X0).alloc _).trans k2
  have OWN2 := Lib.hid own2; have DIS2 := Lib.hid dis2; have KX2 := Lib.hid kx2; have HS2 := Lib.hid hs2; have HM := Lib.hid hM
  clear own2 dis2 kx2 hs2 hf2 k2 hD' y0 y1 y2 y3 y4 hM
  go_wp2
  go_loopg [5, 7] N (fun g v5 v7 wr => ∃ k : Nat, k ≤ N ∧ g = N - k ∧ v7 = .int .i64 k ∧ Hid (wr.ownsRow X0.heap.size 4 1 v5 k ((wantTo L D' p T k).map Value.bool)) ∧ Hid (Keep (fun _ => False) X0 wr) ∧ Hid (Sl wr 1 (.slice da M dc) M (D'.map (.int .i64))) ∧ Hid (0 < M → ∀ b, vblk v5 = some b → vblk (.slice da M dc) ≠ some b))
  case atStart => exact ⟨0, Nat.zero_le _, rfl, rfl, OWN2.out, KX2.out, HS2.out, DIS2.out⟩
  case round =>
    clear OWN2 KX2 HS2 DIS2
    obtain ⟨k, hk, hg, rfl, HOW, HKX, HDS, DIS⟩ := hrel
    by_cases hlt : k < N
    · obtain ⟨s, hs⟩ : ∃ s, L[k]? = some s := ⟨_, List.getElem?_eq_getElem (by rw [← HN.out]; exact hlt)⟩
      obtain ⟨lb, lo, rfl, hce⟩ := HCELL.out k s hs
      have es : L[k]! = s := by rw [List.getElem!_eq_getElem?_getD, hs]; rfl
      have hsm := List.mem_of_getElem? hs
      have hwk := HWB.out k
      rw [es] at hwk
      have hnr := HNEAR0.out s hsm
      have hdc := fun (h1 : 1 ≤ p.day) => HDC.out h1 s hsm
      have haf := fun (W : World) (K : Keep (fun _ => False) wr W) => HAFTER.out W (K0.out.trans (HKX.out.trans K)) k hlt
      have hla := fun (W : World) (K : Keep (fun _ => False) wr W) (h1 : 1 ≤ p.day) => HLATEST.out W (K0.out.trans (HKX.out.trans K)) k hlt h1
      have htp := fun (W : World) (K : Keep (fun _ => False) w W) => HTOP0.out W K (by omega)
      obtain ⟨va1, vc1, rfl⟩ := own_slice HOW.out
      obtain ⟨af, haf2⟩ : ∃ af, af = afterR L k := ⟨_, rfl⟩
      obtain ⟨st, hst⟩ : ∃ st, st = s.time := ⟨_, rfl⟩
      obtain ⟨tk, htk⟩ : ∃ tk, tk = (⟨s.tag.toArray⟩ : ByteArray) := ⟨_, rfl⟩
      obtain ⟨b4, hb4⟩ : ∃ b4, b4 = aboveV s.time T p.within := ⟨_, rfl⟩
      obtain ⟨b1, hb1⟩ : ∃ b1, b1 = decide ((af : Int) < p.last) := ⟨_, rfl⟩
      obtain ⟨d, hd⟩ : ∃ d, d = s.time / p.day := ⟨_, rfl⟩
      have e5 : (!(p.tag == ([] : Bs)) && (s.tag == p.tag)) = (!tp.toList.isEmpty && tk.toList == tp.toList) := by
        rw [HTP.out, htk, toList_data, toList_data]
        congr 1
        cases p.tag <;> rfl
      rw [e5, ← hb4, ← haf2, ← hb1, ← hd] at hwk
      rw [← haf2] at haf
      rw [← hb4, ← hst] at hnr
      rw [← hst] at hce
      rw [← htk] at hce
      have hdc2 : 1 ≤ p.day → ∀ W, Calls Try.prog 91 #[.int .i64 st, .int .i64 p.day] W fun e w' => e = .returned (.int .i64 d) ∧ w' = W := fun h1 W => by rw [hst, hd]; exact hdc h1 W
      have hxw := fun (W : World) (K : Keep (fun _ => False) wr W) => HXP.out W (HKX.out.trans K)
      have HWK := Lib.hid hwk; have HNEAR := Lib.hid hnr; have HDCC := Lib.hid hdc2; have HAF := Lib.hid haf; have HLA := Lib.hid hla; have HTOP := Lib.hid htp; have HCE := Lib.hid hce; have HXW := Lib.hid hxw; have HB1 := Lib.hid hb1
      have i1 : (0 : Int) ≤ k := by omega
      have i2 : (k : Int) < N := by omega
      have HG := Lib.hid hg; have HLT := Lib.hid hlt
      clear hwk hnr hdc hdc2 haf hla htp hce hxw es hsm hs haf2 hst htk hb4 hd e5 hg hlt hk
      have hb1' := HB1.out.symm
      clear hb1
      go_wp2_with fail
      refine region_keep (by kernel_rfl) (by kernel_rfl) ?_
      (with_reducible refine quiet_at ?hw (.slice (some ⟨lb, lo, none⟩) N vc) (fun w' hw' => ?h1) (fun K hK => ?_); (case hw => kernel_rfl); (case h1 => go_simp); go_simp; with_reducible refine hK _ ?_; clear hK K)
      (with_reducible refine quiet_at ?hw (.int .i64 (k : Int)) (fun w' hw' => ?h1) (fun K hK => ?_); (case hw => kernel_rfl); (case h1 => go_simp); go_simp; with_reducible refine hK _ ?_; clear hK K)
      (with_reducible refine quiet_at ?hw (.int .i64 (af : Int)) (fun w' hw' => ?h1) (fun K hK => ?_); (case hw => kernel_rfl); (case h1 => go_simp; exact (HAF.out w' hw').mono fun e w'' h => ⟨h.1, hw'.trans h.2⟩); go_simp; with_reducible refine hK _ ?_; clear hK K)
      (with_reducible refine quiet_at ?hw (.pointer (some ⟨w.heap.size, 0, none⟩)) (fun w' hw' => ?h1) (fun K hK => ?_); (case hw => kernel_rfl); (case h1 => go_simp); go_simp; with_reducible refine hK _ ?_; clear hK K)
      (with_reducible refine quiet_at ?hw (.int .i64 p.last) (fun w' hw' => ?h1) (fun K hK => ?_); (case hw => kernel_rfl); (case h1 => have cc := (HXW.out w' hw').1; go_simp); go_simp; with_reducible refine hK _ ?_; clear hK K)
      (with_reducible refine quiet_at ?hw (.bool b1) (fun w' hw' => ?h1) (fun K hK => ?_); (case hw => kernel_rfl); (case h1 => go_simp); go_simp; with_reducible refine hK _ ?_; clear hK K)
      (with_reducible refine quiet_at ?hw (.bool b1) (fun w' hw' => ?h1) (fun K hK => ?_); (case hw => kernel_rfl); (case h1 => go_simp); go_simp; with_reducible refine hK _ ?_; clear hK K)
      with_reducible refine wpQuiet_nil ?_
      intro W3 K3
      have HK3 := Lib.hid K3
      clear K3 hb1'
      obtain ⟨y0, y1, y2, y3, y4⟩ := HXW.out W3 HK3.out
      by_cases hd1 : 1 ≤ p.day
      · have hdd : decide (1 ≤ p.day) = true := decide_eq_true hd1
        go_wp2_with fail
        refine (HLA.out W3 HK3.out hd1).mono ?_
        rintro e W4 ⟨rfl, k4⟩
        have HK9 := Lib.hid (HK3.out.trans k4)
        rw [hdd] at HWK
        clear k4 HK3 y0 y1 y2 y3 y4
        obtain ⟨bl, hbl⟩ : ∃ bl, bl = latestR L p.day k := ⟨_, rfl⟩
        rw [← hbl] at HWK ⊢
        clear hbl hdd
        cases bl
        case false =>
          simp only [Bool.and_false, Bool.false_and, Bool.or_false] at HWK
          have HKXW := Lib.hid (HKX.out.trans HK9.out)
          have HKWW := Lib.hid (K0.out.trans HKXW.out)
          have HOW9 := Lib.hid (fun (W : World) (K : Keep (fun _ => False) wr W) => own_keep HOW.out K (fun _ _ e => e))
          have HDS9 := Lib.hid (fun (W : World) (K : Keep (fun _ => False) wr W) => Sl.keep HDS.out K (fun _ _ _ e => e))
          have HKX9 := HKX
          have DISW := DIS
          have HLOW := Lib.hid (fun x (e : vblk (.slice va1 k vc1) = some x) => (own_lt HOW.out x e).1)
          obtain ⟨y0, y1, y2, y3, y4⟩ := HXP.out W4 HKXW.out
          obtain ⟨ct, ctg⟩ := HCE.out W4 HKWW.out
          clear HOW HDS HKX DIS
          go_wp2_with fail
          refine wp_region_still_lit (by kernel_rfl) (by kernel_rfl) ?_
          try dsimp only
          iterate 6 (with_reducible refine still_at ?hw (fun K hK => ?_); (case hw => kernel_rfl); go_simp; with_reducible refine hK _ ?_; clear hK K)
          (with_reducible refine still_at ?hw (fun K hK => ?_); (case hw => kernel_rfl); go_simp; refine ⟨_, (HTOP.out _ HKWW.out.drew), hK _ ?_⟩; clear hK K)
          iterate 2 (with_reducible refine still_at ?hw (fun K hK => ?_); (case hw => kernel_rfl); go_simp; with_reducible refine hK _ ?_; clear hK K)
          (with_reducible refine still_at ?hw (fun K hK => ?_); (case hw => kernel_rfl); go_simp; refine ⟨_, (HNEAR.out _), hK _ ?_⟩; clear hK K)
          (with_reducible refine still_at ?hw (fun K hK => ?_); (case hw => kernel_rfl); go_simp; with_reducible refine hK _ ?_; clear hK K)
          cases b4
          case true =>
            iterate 13 (with_reducible refine skip_at ?hw ?_; case hw => kernel_rfl)
            (with_reducible refine still_at ?hw (fun K hK => ?_); (case hw => kernel_rfl); go_simp; with_reducible refine hK _ ?_; clear hK K)
            with_reducible refine wpStill_nil ?_
            have HWANT := Lib.hid (show wantB L D' p T k = true by rw [HWK.out]; simp)
            go_wp2_with (at_builtin; refine wpList_append_sl rfl (.tmp 87) (.tmp 89) 22 rfl X0.heap.size 4 i0 _ 1 1 Try.underlying22 hi hz0 hz1 hz2 rfl (by decide) (.slice va1 k vc1) k ((wantTo L D' p T k).map Value.bool) rfl (HOW9.out _ ((HK9.out.alloc (.cells #[.bool true] 4)).drew)) _ 1 [.bool true] rfl (Sl.keep (sl_made W4 1 1 #[.bool true] 4 rfl (by decide)) ((Keep.refl (fun _ => False) _).drew) (fun _ _ _ e => e)) (fun u hu => by simp at hu; rw [hu]; rfl) (by unfold maxLen; omega) (by omega) (by have := HKXW.out.size; simp; omega) ?_; intro v1 Y1 hown1 hk1 hb1; have HN1 := Lib.hid (keep_next (HDS9.out _ ((HK9.out.alloc (.cells #[.bool true] 4)).drew)) DISW.out hk1 hb1); obtain ⟨g1, c1, e1, O1, KX1, B1, Z1⟩ := own_next (HKX9.out.trans ((HK9.out.alloc (.cells #[.bool true] 4)).drew)) HLOW.out hown1 hk1 hb1; subst e1; clear hown1 hk1 hb1)
            go_roundg (N - (k + 1))
            case measure => have := HG.out; have := HLT.out; omega
            case rel => exact ⟨k + 1, HLT.out, rfl, by go_num, (by rw [wantTo_step, HWANT.out, List.map_append]; exact O1.out), KX1.out, HN1.out.1, HN1.out.2⟩
          case false =>
            iterate 3 (with_reducible refine still_at ?hw (fun K hK => ?_); (case hw => kernel_rfl); go_simp; with_reducible refine hK _ ?_; clear hK K)
            obtain ⟨tn, htn⟩ : ∃ tn, tn = !tp.toList.isEmpty := ⟨_, rfl⟩
            rw [← htn]
            rw [← htn] at HWK
            clear htn
            (with_reducible refine still_at ?hw (fun K hK => ?_); (case hw => kernel_rfl); go_simp; with_reducible refine hK _ ?_; clear hK K)
            cases tn
            case false =>
              iterate 8 (with_reducible refine skip_at ?hw ?_; case hw => kernel_rfl)
              iterate 2 (with_reducible refine still_at ?hw (fun K hK => ?_); (case hw => kernel_rfl); go_simp; with_reducible refine hK _ ?_; clear hK K)
              with_reducible refine wpStill_nil ?_
              have HWANT := Lib.hid (show wantB L D' p T k = b1 by rw [HWK.out]; simp)
              go_wp2_with (at_builtin; refine wpList_append_sl rfl (.tmp 87) (.tmp 89) 22 rfl X0.heap.size 4 i0 _ 1 1 Try.underlying22 hi hz0 hz1 hz2 rfl (by decide) (.slice va1 k vc1) k ((wantTo L D' p T k).map Value.bool) rfl (HOW9.out _ ((HK9.out.alloc (.cells #[.bool b1] 4)).drew)) _ 1 [.bool b1] rfl (Sl.keep (sl_made W4 1 1 #[.bool b1] 4 rfl (by decide)) ((Keep.refl (fun _ => False) _).drew) (fun _ _ _ e => e)) (fun u hu => by simp at hu; rw [hu]; rfl) (by unfold maxLen; omega) (by omega) (by have := HKXW.out.size; simp; omega) ?_; intro v1 Y1 hown1 hk1 hb1; have HN1 := Lib.hid (keep_next (HDS9.out _ ((HK9.out.alloc (.cells #[.bool b1] 4)).drew)) DISW.out hk1 hb1); obtain ⟨g1, c1, e1, O1, KX1, B1, Z1⟩ := own_next (HKX9.out.trans ((HK9.out.alloc (.cells #[.bool b1] 4)).drew)) HLOW.out hown1 hk1 hb1; subst e1; clear hown1 hk1 hb1)
              go_roundg (N - (k + 1))
              case measure => have := HG.out; have := HLT.out; omega
              case rel => exact ⟨k + 1, HLT.out, rfl, by go_num, (by rw [wantTo_step, HWANT.out, List.map_append]; exact O1.out), KX1.out, HN1.out.1, HN1.out.2⟩
            case true =>
              iterate 8 (with_reducible refine still_at ?hw (fun K hK => ?_); (case hw => kernel_rfl); go_simp; with_reducible refine hK _ ?_; clear hK K)
              obtain ⟨q, hq⟩ : ∃ q, q = (tk.toList == tp.toList) := ⟨_, rfl⟩
              rw [← hq]
              rw [← hq] at HWK
              clear hq
              iterate 2 (with_reducible refine still_at ?hw (fun K hK => ?_); (case hw => kernel_rfl); go_simp; with_reducible refine hK _ ?_; clear hK K)
              with_reducible refine wpStill_nil ?_
              cases q
              case false =>
                have HWANT := Lib.hid (show wantB L D' p T k = b1 by rw [HWK.out]; simp)
                go_wp2_with (at_builtin; refine wpList_append_sl rfl (.tmp 87) (.tmp 89) 22 rfl X0.heap.size 4 i0 _ 1 1 Try.underlying22 hi hz0 hz1 hz2 rfl (by decide) (.slice va1 k vc1) k ((wantTo L D' p T k).map Value.bool) rfl (HOW9.out _ ((HK9.out.alloc (.cells #[.bool b1] 4)).drew)) _ 1 [.bool b1] rfl (Sl.keep (sl_made W4 1 1 #[.bool b1] 4 rfl (by decide)) ((Keep.refl (fun _ => False) _).drew) (fun _ _ _ e => e)) (fun u hu => by simp at hu; rw [hu]; rfl) (by unfold maxLen; omega) (by omega) (by have := HKXW.out.size; simp; omega) ?_; intro v1 Y1 hown1 hk1 hb1; have HN1 := Lib.hid (keep_next (HDS9.out _ ((HK9.out.alloc (.cells #[.bool b1] 4)).drew)) DISW.out hk1 hb1); obtain ⟨g1, c1, e1, O1, KX1, B1, Z1⟩ := own_next (HKX9.out.trans ((HK9.out.alloc (.cells #[.bool b1] 4)).drew)) HLOW.out hown1 hk1 hb1; subst e1; clear hown1 hk1 hb1)
                go_roundg (N - (k + 1))
                case measure => have := HG.out; have := HLT.out; omega
                case rel => exact ⟨k + 1, HLT.out, rfl, by go_num, (by rw [wantTo_step, HWANT.out, List.map_append]; exact O1.out), KX1.out, HN1.out.1, HN1.out.2⟩
              case true =>
                have HWANT := Lib.hid (show wantB L D' p T k = true by rw [HWK.out]; simp)
                go_wp2_with (at_builtin; refine wpList_append_sl rfl (.tmp 87) (.tmp 89) 22 rfl X0.heap.size 4 i0 _ 1 1 Try.underlying22 hi hz0 hz1 hz2 rfl (by decide) (.slice va1 k vc1) k ((wantTo L D' p T k).map Value.bool) rfl (HOW9.out _ ((HK9.out.alloc (.cells #[.bool true] 4)).drew)) _ 1 [.bool true] rfl (Sl.keep (sl_made W4 1 1 #[.bool true] 4 rfl (by decide)) ((Keep.refl (fun _ => False) _).drew) (fun _ _ _ e => e)) (fun u hu => by simp at hu; rw [hu]; rfl) (by unfold maxLen; omega) (by omega) (by have := HKXW.out.size; simp; omega) ?_; intro v1 Y1 hown1 hk1 hb1; have HN1 := Lib.hid (keep_next (HDS9.out _ ((HK9.out.alloc (.cells #[.bool true] 4)).drew)) DISW.out hk1 hb1); obtain ⟨g1, c1, e1, O1, KX1, B1, Z1⟩ := own_next (HKX9.out.trans ((HK9.out.alloc (.cells #[.bool true] 4)).drew)) HLOW.out hown1 hk1 hb1; subst e1; clear hown1 hk1 hb1)
                go_roundg (N - (k + 1))
                case measure => have := HG.out; have := HLT.out; omega
                case rel => exact ⟨k + 1, HLT.out, rfl, by go_num, (by rw [wantTo_step, HWANT.out, List.map_append]; exact O1.out), KX1.out, HN1.out.1, HN1.out.2⟩
        case true =>
          simp only [Bool.and_true, Bool.true_and] at HWK
          have HKX4 := Lib.hid (HKX.out.trans HK9.out)
          have HOW4 := Lib.hid (own_keep HOW.out HK9.out (fun _ _ e => e))
          have HDS4 := Lib.hid (Sl.keep HDS.out HK9.out (fun _ _ _ e => e))
          clear HOW HDS HKX HAF HLA HXW HK9
          go_wp2
          go_loopg [8, 9] M (fun g v8 v9 wi => ∃ (j : Nat) (kb : Bool), j ≤ M ∧ g = M - j ∧ v8 = .bool kb ∧ v9 = .int .i64 j ∧ Hid ((j : Int) ≤ max p.days 0) ∧ Hid (kb = (b1 || (D'.take j).contains d)) ∧ Hid (Keep (fun _ => False) W4 wi))
          case atStart => exact ⟨0, b1, Nat.zero_le _, rfl, rfl, rfl, Int.le_max_right _ _, by simp [Hid], Keep.refl _ _⟩
          case round =>
            obtain ⟨j, kb, hj, hgj, rfl, rfl, HJD, HKB, HK9⟩ := hrel
            have HKXL := Lib.hid (HKX4.out.trans HK9.out)
            have HKWL := Lib.hid (K0.out.trans HKXL.out)
            obtain ⟨y0, y1, y2, y3, y4⟩ := HXP.out wr HKXL.out
            obtain ⟨ct, ctg⟩ := HCE.out wr HKWL.out
            have HGJ := Lib.hid hgj
            clear hgj
            by_cases h1 : j < M
            · by_cases h2 : (j : Int) < p.days
              · obtain ⟨db, dd, cc, ev, _, _⟩ := Sl.base HDS4.out (by omega)
                cases ev
                obtain ⟨x, hx⟩ : ∃ x, D'[j]? = some x := ⟨_, List.getElem?_eq_getElem (by rw [← HM.out]; exact h1)⟩
                have cx : wr.cell? ⟨db, dd + j, none⟩ = some (.int .i64 x) := Sl.at1 (Sl.keep HDS4.out HK9.out (fun _ _ _ e => e)) (by rw [List.getElem?_map, hx]; rfl)
                have HX := Lib.hid hx
                clear hx
                have m1 : (0 : Int) ≤ j := by omega
                have m2 : (j : Int) < M := by omega
                by_cases hxd : x = d
                · subst hxd
                  go_wp2_with fail
                  refine wp_region_still_lit (by kernel_rfl) (by kernel_rfl) ?_
                  try dsimp only
                  iterate 11 (with_reducible refine still_at ?hw (fun K hK => ?_); (case hw => kernel_rfl); go_simp; with_reducible refine hK _ ?_; clear hK K)
                  (with_reducible refine still_at ?hw (fun K hK => ?_); (case hw => kernel_rfl); go_simp; refine ⟨_, (HDCC.out hd1 _), hK _ ?_⟩; clear hK K)
                  (with_reducible refine still_at ?hw (fun K hK => ?_); (case hw => kernel_rfl); go_simp; with_reducible refine hK _ ?_; clear hK K)
                  with_reducible refine wpStill_nil ?_
                  go_wp2
                  go_roundg (M - (j + 1))
                  case measure => have := HGJ.out; omega
                  case rel => exact ⟨j + 1, true, h1, rfl, rfl, by go_num, (by unfold Hid; have := h2; omega), (by have h3 : (D'.take (j + 1)).contains x = true := (by rw [has_step HX.out]; simp); unfold Hid; rw [h3]; simp), HK9.out.drew⟩
                · go_wp2_with fail
                  refine wp_region_still_lit (by kernel_rfl) (by kernel_rfl) ?_
                  try dsimp only
                  iterate 11 (with_reducible refine still_at ?hw (fun K hK => ?_); (case hw => kernel_rfl); go_simp; with_reducible refine hK _ ?_; clear hK K)
                  (with_reducible refine still_at ?hw (fun K hK => ?_); (case hw => kernel_rfl); go_simp; refine ⟨_, (HDCC.out hd1 _), hK _ ?_⟩; clear hK K)
                  (with_reducible refine still_at ?hw (fun K hK => ?_); (case hw => kernel_rfl); go_simp; with_reducible refine hK _ ?_; clear hK K)
                  with_reducible refine wpStill_nil ?_
                  go_wp2
                  go_roundg (M - (j + 1))
                  case measure => have := HGJ.out; omega
                  case rel => exact ⟨j + 1, kb, h1, rfl, rfl, by go_num, (by unfold Hid; have := h2; omega), (by have h3 : (x == d) = false := beq_eq_false_iff_ne.2 hxd; unfold Hid; rw [has_step HX.out, h3, Bool.or_false]; exact HKB.out), HK9.out.drew⟩
              · have hcd : (D'.take p.days.toNat).contains d = (D'.take j).contains d := by
                  have := HJD.out
                  rw [show p.days.toNat = j by omega]
                rw [hcd, ← HKB.out] at HWK
                clear hcd ct ctg y0 y1 y2 y3 y4
                have HKX := HKX4; have HOW := HOW4; have HDS := HDS4
                clear HKX4 HOW4 HDS4
                have HKXW := Lib.hid (HKX.out.trans HK9.out)
                have HKWW := Lib.hid (K0.out.trans HKXW.out)
                have HOW9 := Lib.hid (fun (W : World) (K : Keep (fun _ => False) W4 W) => own_keep HOW.out K (fun _ _ e => e))
                have HDS9 := Lib.hid (fun (W : World) (K : Keep (fun _ => False) W4 W) => Sl.keep HDS.out K (fun _ _ _ e => e))
                have HKX9 := HKX
                have DISW := DIS
                have HLOW := Lib.hid (fun x (e : vblk (.slice va1 k vc1) = some x) => (own_lt HOW.out x e).1)
                obtain ⟨y0, y1, y2, y3, y4⟩ := HXP.out wr HKXW.out
                obtain ⟨ct, ctg⟩ := HCE.out wr HKWW.out
                clear HOW HDS HKX DIS
                go_wp2_with fail
                refine wp_region_still_lit (by kernel_rfl) (by kernel_rfl) ?_
                try dsimp only
                iterate 6 (with_reducible refine still_at ?hw (fun K hK => ?_); (case hw => kernel_rfl); go_simp; with_reducible refine hK _ ?_; clear hK K)
                (with_reducible refine still_at ?hw (fun K hK => ?_); (case hw => kernel_rfl); go_simp; refine ⟨_, (HTOP.out _ HKWW.out.drew), hK _ ?_⟩; clear hK K)
                iterate 2 (with_reducible refine still_at ?hw (fun K hK => ?_); (case hw => kernel_rfl); go_simp; with_reducible refine hK _ ?_; clear hK K)
                (with_reducible refine still_at ?hw (fun K hK => ?_); (case hw => kernel_rfl); go_simp; refine ⟨_, (HNEAR.out _), hK _ ?_⟩; clear hK K)
                (with_reducible refine still_at ?hw (fun K hK => ?_); (case hw => kernel_rfl); go_simp; with_reducible refine hK _ ?_; clear hK K)
                cases b4
                case true =>
                  iterate 13 (with_reducible refine skip_at ?hw ?_; case hw => kernel_rfl)
                  (with_reducible refine still_at ?hw (fun K hK => ?_); (case hw => kernel_rfl); go_simp; with_reducible refine hK _ ?_; clear hK K)
                  with_reducible refine wpStill_nil ?_
                  have HWANT := Lib.hid (show wantB L D' p T k = true by rw [HWK.out]; simp)
                  go_wp2_with (at_builtin; refine wpList_append_sl rfl (.tmp 87) (.tmp 89) 22 rfl X0.heap.size 4 i0 _ 1 1 Try.underlying22 hi hz0 hz1 hz2 rfl (by decide) (.slice va1 k vc1) k ((wantTo L D' p T k).map Value.bool) rfl (HOW9.out _ ((HK9.out.alloc (.cells #[.bool true] 4)).drew)) _ 1 [.bool true] rfl (Sl.keep (sl_made wr 1 1 #[.bool true] 4 rfl (by decide)) ((Keep.refl (fun _ => False) _).drew) (fun _ _ _ e => e)) (fun u hu => by simp at hu; rw [hu]; rfl) (by unfold maxLen; omega) (by omega) (by have := HKXW.out.size; simp; omega) ?_; intro v1 Y1 hown1 hk1 hb1; have HN1 := Lib.hid (keep_next (HDS9.out _ ((HK9.out.alloc (.cells #[.bool true] 4)).drew)) DISW.out hk1 hb1); obtain ⟨g1, c1, e1, O1, KX1, B1, Z1⟩ := own_next (HKX9.out.trans ((HK9.out.alloc (.cells #[.bool true] 4)).drew)) HLOW.out hown1 hk1 hb1; subst e1; clear hown1 hk1 hb1)
                  go_roundg (N - (k + 1))
                  case measure => have := HG.out; have := HLT.out; omega
                  case rel => exact ⟨k + 1, HLT.out, rfl, by go_num, (by rw [wantTo_step, HWANT.out, List.map_append]; exact O1.out), KX1.out, HN1.out.1, HN1.out.2⟩
                case false =>
                  iterate 3 (with_reducible refine still_at ?hw (fun K hK => ?_); (case hw => kernel_rfl); go_simp; with_reducible refine hK _ ?_; clear hK K)
                  obtain ⟨tn, htn⟩ : ∃ tn, tn = !tp.toList.isEmpty := ⟨_, rfl⟩
                  rw [← htn]
                  rw [← htn] at HWK
                  clear htn
                  (with_reducible refine still_at ?hw (fun K hK => ?_); (case hw => kernel_rfl); go_simp; with_reducible refine hK _ ?_; clear hK K)
                  cases tn
                  case false =>
                    iterate 8 (with_reducible refine skip_at ?hw ?_; case hw => kernel_rfl)
                    iterate 2 (with_reducible refine still_at ?hw (fun K hK => ?_); (case hw => kernel_rfl); go_simp; with_reducible refine hK _ ?_; clear hK K)
                    with_reducible refine wpStill_nil ?_
                    have HWANT := Lib.hid (show wantB L D' p T k = kb by rw [HWK.out]; simp)
                    go_wp2_with (at_builtin; refine wpList_append_sl rfl (.tmp 87) (.tmp 89) 22 rfl X0.heap.size 4 i0 _ 1 1 Try.underlying22 hi hz0 hz1 hz2 rfl (by decide) (.slice va1 k vc1) k ((wantTo L D' p T k).map Value.bool) rfl (HOW9.out _ ((HK9.out.alloc (.cells #[.bool kb] 4)).drew)) _ 1 [.bool kb] rfl (Sl.keep (sl_made wr 1 1 #[.bool kb] 4 rfl (by decide)) ((Keep.refl (fun _ => False) _).drew) (fun _ _ _ e => e)) (fun u hu => by simp at hu; rw [hu]; rfl) (by unfold maxLen; omega) (by omega) (by have := HKXW.out.size; simp; omega) ?_; intro v1 Y1 hown1 hk1 hb1; have HN1 := Lib.hid (keep_next (HDS9.out _ ((HK9.out.alloc (.cells #[.bool kb] 4)).drew)) DISW.out hk1 hb1); obtain ⟨g1, c1, e1, O1, KX1, B1, Z1⟩ := own_next (HKX9.out.trans ((HK9.out.alloc (.cells #[.bool kb] 4)).drew)) HLOW.out hown1 hk1 hb1; subst e1; clear hown1 hk1 hb1)
                    go_roundg (N - (k + 1))
                    case measure => have := HG.out; have := HLT.out; omega
                    case rel => exact ⟨k + 1, HLT.out, rfl, by go_num, (by rw [wantTo_step, HWANT.out, List.map_append]; exact O1.out), KX1.out, HN1.out.1, HN1.out.2⟩
                  case true =>
                    iterate 8 (with_reducible refine still_at ?hw (fun K hK => ?_); (case hw => kernel_rfl); go_simp; with_reducible refine hK _ ?_; clear hK K)
                    obtain ⟨q, hq⟩ : ∃ q, q = (tk.toList == tp.toList) := ⟨_, rfl⟩
                    rw [← hq]
                    rw [← hq] at HWK
                    clear hq
                    iterate 2 (with_reducible refine still_at ?hw (fun K hK => ?_); (case hw => kernel_rfl); go_simp; with_reducible refine hK _ ?_; clear hK K)
                    with_reducible refine wpStill_nil ?_
                    cases q
                    case false =>
                      have HWANT := Lib.hid (show wantB L D' p T k = kb by rw [HWK.out]; simp)
                      go_wp2_with (at_builtin; refine wpList_append_sl rfl (.tmp 87) (.tmp 89) 22 rfl X0.heap.size 4 i0 _ 1 1 Try.underlying22 hi hz0 hz1 hz2 rfl (by decide) (.slice va1 k vc1) k ((wantTo L D' p T k).map Value.bool) rfl (HOW9.out _ ((HK9.out.alloc (.cells #[.bool kb] 4)).drew)) _ 1 [.bool kb] rfl (Sl.keep (sl_made wr 1 1 #[.bool kb] 4 rfl (by decide)) ((Keep.refl (fun _ => False) _).drew) (fun _ _ _ e => e)) (fun u hu => by simp at hu; rw [hu]; rfl) (by unfold maxLen; omega) (by omega) (by have := HKXW.out.size; simp; omega) ?_; intro v1 Y1 hown1 hk1 hb1; have HN1 := Lib.hid (keep_next (HDS9.out _ ((HK9.out.alloc (.cells #[.bool kb] 4)).drew)) DISW.out hk1 hb1); obtain ⟨g1, c1, e1, O1, KX1, B1, Z1⟩ := own_next (HKX9.out.trans ((HK9.out.alloc (.cells #[.bool kb] 4)).drew)) HLOW.out hown1 hk1 hb1; subst e1; clear hown1 hk1 hb1)
                      go_roundg (N - (k + 1))
                      case measure => have := HG.out; have := HLT.out; omega
                      case rel => exact ⟨k + 1, HLT.out, rfl, by go_num, (by rw [wantTo_step, HWANT.out, List.map_append]; exact O1.out), KX1.out, HN1.out.1, HN1.out.2⟩
                    case true =>
                      have HWANT := Lib.hid (show wantB L D' p T k = true by rw [HWK.out]; simp)
                      go_wp2_with (at_builtin; refine wpList_append_sl rfl (.tmp 87) (.tmp 89) 22 rfl X0.heap.size 4 i0 _ 1 1 Try.underlying22 hi hz0 hz1 hz2 rfl (by decide) (.slice va1 k vc1) k ((wantTo L D' p T k).map Value.bool) rfl (HOW9.out _ ((HK9.out.alloc (.cells #[.bool true] 4)).drew)) _ 1 [.bool true] rfl (Sl.keep (sl_made wr 1 1 #[.bool true] 4 rfl (by decide)) ((Keep.refl (fun _ => False) _).drew) (fun _ _ _ e => e)) (fun u hu => by simp at hu; rw [hu]; rfl) (by unfold maxLen; omega) (by omega) (by have := HKXW.out.size; simp; omega) ?_; intro v1 Y1 hown1 hk1 hb1; have HN1 := Lib.hid (keep_next (HDS9.out _ ((HK9.out.alloc (.cells #[.bool true] 4)).drew)) DISW.out hk1 hb1); obtain ⟨g1, c1, e1, O1, KX1, B1, Z1⟩ := own_next (HKX9.out.trans ((HK9.out.alloc (.cells #[.bool true] 4)).drew)) HLOW.out hown1 hk1 hb1; subst e1; clear hown1 hk1 hb1)
                      go_roundg (N - (k + 1))
                      case measure => have := HG.out; have := HLT.out; omega
                      case rel => exact ⟨k + 1, HLT.out, rfl, by go_num, (by rw [wantTo_step, HWANT.out, List.map_append]; exact O1.out), KX1.out, HN1.out.1, HN1.out.2⟩
            · have hcd : (D'.take p.days.toNat).contains d = (D'.take j).contains d := by
                have := HJD.out
                have := HM.out
                rw [List.take_of_length_le (by omega), List.take_of_length_le (by omega)]
              rw [hcd, ← HKB.out] at HWK
              clear hcd ct ctg y0 y1 y2 y3 y4
              have HKX := HKX4; have HOW := HOW4; have HDS := HDS4
              clear HKX4 HOW4 HDS4
              have HKXW := Lib.hid (HKX.out.trans HK9.out)
              have HKWW := Lib.hid (K0.out.trans HKXW.out)
              have HOW9 := Lib.hid (fun (W : World) (K : Keep (fun _ => False) W4 W) => own_keep HOW.out K (fun _ _ e => e))
              have HDS9 := Lib.hid (fun (W : World) (K : Keep (fun _ => False) W4 W) => Sl.keep HDS.out K (fun _ _ _ e => e))
              have HKX9 := HKX
              have DISW := DIS
              have HLOW := Lib.hid (fun x (e : vblk (.slice va1 k vc1) = some x) => (own_lt HOW.out x e).1)
              obtain ⟨y0, y1, y2, y3, y4⟩ := HXP.out wr HKXW.out
              obtain ⟨ct, ctg⟩ := HCE.out wr HKWW.out
              clear HOW HDS HKX DIS
              go_wp2_with fail
              refine wp_region_still_lit (by kernel_rfl) (by kernel_rfl) ?_
              try dsimp only
              iterate 6 (with_reducible refine still_at ?hw (fun K hK => ?_); (case hw => kernel_rfl); go_simp; with_reducible refine hK _ ?_; clear hK K)
              (with_reducible refine still_at ?hw (fun K hK => ?_); (case hw => kernel_rfl); go_simp; refine ⟨_, (HTOP.out _ HKWW.out.drew), hK _ ?_⟩; clear hK K)
              iterate 2 (with_reducible refine still_at ?hw (fun K hK => ?_); (case hw => kernel_rfl); go_simp; with_reducible refine hK _ ?_; clear hK K)
              (with_reducible refine still_at ?hw (fun K hK => ?_); (case hw => kernel_rfl); go_simp; refine ⟨_, (HNEAR.out _), hK _ ?_⟩; clear hK K)
              (with_reducible refine still_at ?hw (fun K hK => ?_); (case hw => kernel_rfl); go_simp; with_reducible refine hK _ ?_; clear hK K)
              cases b4
              case true =>
                iterate 13 (with_reducible refine skip_at ?hw ?_; case hw => kernel_rfl)
                (with_reducible refine still_at ?hw (fun K hK => ?_); (case hw => kernel_rfl); go_simp; with_reducible refine hK _ ?_; clear hK K)
                with_reducible refine wpStill_nil ?_
                have HWANT := Lib.hid (show wantB L D' p T k = true by rw [HWK.out]; simp)
                go_wp2_with (at_builtin; refine wpList_append_sl rfl (.tmp 87) (.tmp 89) 22 rfl X0.heap.size 4 i0 _ 1 1 Try.underlying22 hi hz0 hz1 hz2 rfl (by decide) (.slice va1 k vc1) k ((wantTo L D' p T k).map Value.bool) rfl (HOW9.out _ ((HK9.out.alloc (.cells #[.bool true] 4)).drew)) _ 1 [.bool true] rfl (Sl.keep (sl_made wr 1 1 #[.bool true] 4 rfl (by decide)) ((Keep.refl (fun _ => False) _).drew) (fun _ _ _ e => e)) (fun u hu => by simp at hu; rw [hu]; rfl) (by unfold maxLen; omega) (by omega) (by have := HKXW.out.size; simp; omega) ?_; intro v1 Y1 hown1 hk1 hb1; have HN1 := Lib.hid (keep_next (HDS9.out _ ((HK9.out.alloc (.cells #[.bool true] 4)).drew)) DISW.out hk1 hb1); obtain ⟨g1, c1, e1, O1, KX1, B1, Z1⟩ := own_next (HKX9.out.trans ((HK9.out.alloc (.cells #[.bool true] 4)).drew)) HLOW.out hown1 hk1 hb1; subst e1; clear hown1 hk1 hb1)
                go_roundg (N - (k + 1))
                case measure => have := HG.out; have := HLT.out; omega
                case rel => exact ⟨k + 1, HLT.out, rfl, by go_num, (by rw [wantTo_step, HWANT.out, List.map_append]; exact O1.out), KX1.out, HN1.out.1, HN1.out.2⟩
              case false =>
                iterate 3 (with_reducible refine still_at ?hw (fun K hK => ?_); (case hw => kernel_rfl); go_simp; with_reducible refine hK _ ?_; clear hK K)
                obtain ⟨tn, htn⟩ : ∃ tn, tn = !tp.toList.isEmpty := ⟨_, rfl⟩
                rw [← htn]
                rw [← htn] at HWK
                clear htn
                (with_reducible refine still_at ?hw (fun K hK => ?_); (case hw => kernel_rfl); go_simp; with_reducible refine hK _ ?_; clear hK K)
                cases tn
                case false =>
                  iterate 8 (with_reducible refine skip_at ?hw ?_; case hw => kernel_rfl)
                  iterate 2 (with_reducible refine still_at ?hw (fun K hK => ?_); (case hw => kernel_rfl); go_simp; with_reducible refine hK _ ?_; clear hK K)
                  with_reducible refine wpStill_nil ?_
                  have HWANT := Lib.hid (show wantB L D' p T k = kb by rw [HWK.out]; simp)
                  go_wp2_with (at_builtin; refine wpList_append_sl rfl (.tmp 87) (.tmp 89) 22 rfl X0.heap.size 4 i0 _ 1 1 Try.underlying22 hi hz0 hz1 hz2 rfl (by decide) (.slice va1 k vc1) k ((wantTo L D' p T k).map Value.bool) rfl (HOW9.out _ ((HK9.out.alloc (.cells #[.bool kb] 4)).drew)) _ 1 [.bool kb] rfl (Sl.keep (sl_made wr 1 1 #[.bool kb] 4 rfl (by decide)) ((Keep.refl (fun _ => False) _).drew) (fun _ _ _ e => e)) (fun u hu => by simp at hu; rw [hu]; rfl) (by unfold maxLen; omega) (by omega) (by have := HKXW.out.size; simp; omega) ?_; intro v1 Y1 hown1 hk1 hb1; have HN1 := Lib.hid (keep_next (HDS9.out _ ((HK9.out.alloc (.cells #[.bool kb] 4)).drew)) DISW.out hk1 hb1); obtain ⟨g1, c1, e1, O1, KX1, B1, Z1⟩ := own_next (HKX9.out.trans ((HK9.out.alloc (.cells #[.bool kb] 4)).drew)) HLOW.out hown1 hk1 hb1; subst e1; clear hown1 hk1 hb1)
                  go_roundg (N - (k + 1))
                  case measure => have := HG.out; have := HLT.out; omega
                  case rel => exact ⟨k + 1, HLT.out, rfl, by go_num, (by rw [wantTo_step, HWANT.out, List.map_append]; exact O1.out), KX1.out, HN1.out.1, HN1.out.2⟩
                case true =>
                  iterate 8 (with_reducible refine still_at ?hw (fun K hK => ?_); (case hw => kernel_rfl); go_simp; with_reducible refine hK _ ?_; clear hK K)
                  obtain ⟨q, hq⟩ : ∃ q, q = (tk.toList == tp.toList) := ⟨_, rfl⟩
                  rw [← hq]
                  rw [← hq] at HWK
                  clear hq
                  iterate 2 (with_reducible refine still_at ?hw (fun K hK => ?_); (case hw => kernel_rfl); go_simp; with_reducible refine hK _ ?_; clear hK K)
                  with_reducible refine wpStill_nil ?_
                  cases q
                  case false =>
                    have HWANT := Lib.hid (show wantB L D' p T k = kb by rw [HWK.out]; simp)
                    go_wp2_with (at_builtin; refine wpList_append_sl rfl (.tmp 87) (.tmp 89) 22 rfl X0.heap.size 4 i0 _ 1 1 Try.underlying22 hi hz0 hz1 hz2 rfl (by decide) (.slice va1 k vc1) k ((wantTo L D' p T k).map Value.bool) rfl (HOW9.out _ ((HK9.out.alloc (.cells #[.bool kb] 4)).drew)) _ 1 [.bool kb] rfl (Sl.keep (sl_made wr 1 1 #[.bool kb] 4 rfl (by decide)) ((Keep.refl (fun _ => False) _).drew) (fun _ _ _ e => e)) (fun u hu => by simp at hu; rw [hu]; rfl) (by unfold maxLen; omega) (by omega) (by have := HKXW.out.size; simp; omega) ?_; intro v1 Y1 hown1 hk1 hb1; have HN1 := Lib.hid (keep_next (HDS9.out _ ((HK9.out.alloc (.cells #[.bool kb] 4)).drew)) DISW.out hk1 hb1); obtain ⟨g1, c1, e1, O1, KX1, B1, Z1⟩ := own_next (HKX9.out.trans ((HK9.out.alloc (.cells #[.bool kb] 4)).drew)) HLOW.out hown1 hk1 hb1; subst e1; clear hown1 hk1 hb1)
                    go_roundg (N - (k + 1))
                    case measure => have := HG.out; have := HLT.out; omega
                    case rel => exact ⟨k + 1, HLT.out, rfl, by go_num, (by rw [wantTo_step, HWANT.out, List.map_append]; exact O1.out), KX1.out, HN1.out.1, HN1.out.2⟩
                  case true =>
                    have HWANT := Lib.hid (show wantB L D' p T k = true by rw [HWK.out]; simp)
                    go_wp2_with (at_builtin; refine wpList_append_sl rfl (.tmp 87) (.tmp 89) 22 rfl X0.heap.size 4 i0 _ 1 1 Try.underlying22 hi hz0 hz1 hz2 rfl (by decide) (.slice va1 k vc1) k ((wantTo L D' p T k).map Value.bool) rfl (HOW9.out _ ((HK9.out.alloc (.cells #[.bool true] 4)).drew)) _ 1 [.bool true] rfl (Sl.keep (sl_made wr 1 1 #[.bool true] 4 rfl (by decide)) ((Keep.refl (fun _ => False) _).drew) (fun _ _ _ e => e)) (fun u hu => by simp at hu; rw [hu]; rfl) (by unfold maxLen; omega) (by omega) (by have := HKXW.out.size; simp; omega) ?_; intro v1 Y1 hown1 hk1 hb1; have HN1 := Lib.hid (keep_next (HDS9.out _ ((HK9.out.alloc (.cells #[.bool true] 4)).drew)) DISW.out hk1 hb1); obtain ⟨g1, c1, e1, O1, KX1, B1, Z1⟩ := own_next (HKX9.out.trans ((HK9.out.alloc (.cells #[.bool true] 4)).drew)) HLOW.out hown1 hk1 hb1; subst e1; clear hown1 hk1 hb1)
                    go_roundg (N - (k + 1))
                    case measure => have := HG.out; have := HLT.out; omega
                    case rel => exact ⟨k + 1, HLT.out, rfl, by go_num, (by rw [wantTo_step, HWANT.out, List.map_append]; exact O1.out), KX1.out, HN1.out.1, HN1.out.2⟩
      · have hdd : decide (1 ≤ p.day) = false := decide_eq_false hd1
        have HK9 := HK3
        rw [hdd] at HWK
        simp only [Bool.false_and, Bool.or_false] at HWK
        clear hdd y0 y1 y2 y3 y4
        have HKXW := Lib.hid (HKX.out.trans HK9.out)
        have HKWW := Lib.hid (K0.out.trans HKXW.out)
        have HOW9 := Lib.hid (fun (W : World) (K : Keep (fun _ => False) wr W) => own_keep HOW.out K (fun _ _ e => e))
        have HDS9 := Lib.hid (fun (W : World) (K : Keep (fun _ => False) wr W) => Sl.keep HDS.out K (fun _ _ _ e => e))
        have HKX9 := HKX
        have DISW := DIS
        have HLOW := Lib.hid (fun x (e : vblk (.slice va1 k vc1) = some x) => (own_lt HOW.out x e).1)
        obtain ⟨y0, y1, y2, y3, y4⟩ := HXP.out W3 HKXW.out
        obtain ⟨ct, ctg⟩ := HCE.out W3 HKWW.out
        clear HOW HDS HKX DIS
        go_wp2_with fail
        refine wp_region_still_lit (by kernel_rfl) (by kernel_rfl) ?_
        try dsimp only
        iterate 6 (with_reducible refine still_at ?hw (fun K hK => ?_); (case hw => kernel_rfl); go_simp; with_reducible refine hK _ ?_; clear hK K)
        (with_reducible refine still_at ?hw (fun K hK => ?_); (case hw => kernel_rfl); go_simp; refine ⟨_, (HTOP.out _ HKWW.out.drew), hK _ ?_⟩; clear hK K)
        iterate 2 (with_reducible refine still_at ?hw (fun K hK => ?_); (case hw => kernel_rfl); go_simp; with_reducible refine hK _ ?_; clear hK K)
        (with_reducible refine still_at ?hw (fun K hK => ?_); (case hw => kernel_rfl); go_simp; refine ⟨_, (HNEAR.out _), hK _ ?_⟩; clear hK K)
        (with_reducible refine still_at ?hw (fun K hK => ?_); (case hw => kernel_rfl); go_simp; with_reducible refine hK _ ?_; clear hK K)
        cases b4
        case true =>
          iterate 13 (with_reducible refine skip_at ?hw ?_; case hw => kernel_rfl)
          (with_reducible refine still_at ?hw (fun K hK => ?_); (case hw => kernel_rfl); go_simp; with_reducible refine hK _ ?_; clear hK K)
          with_reducible refine wpStill_nil ?_
          have HWANT := Lib.hid (show wantB L D' p T k = true by rw [HWK.out]; simp)
          go_wp2_with (at_builtin; refine wpList_append_sl rfl (.tmp 87) (.tmp 89) 22 rfl X0.heap.size 4 i0 _ 1 1 Try.underlying22 hi hz0 hz1 hz2 rfl (by decide) (.slice va1 k vc1) k ((wantTo L D' p T k).map Value.bool) rfl (HOW9.out _ ((HK9.out.alloc (.cells #[.bool true] 4)).drew)) _ 1 [.bool true] rfl (Sl.keep (sl_made W3 1 1 #[.bool true] 4 rfl (by decide)) ((Keep.refl (fun _ => False) _).drew) (fun _ _ _ e => e)) (fun u hu => by simp at hu; rw [hu]; rfl) (by unfold maxLen; omega) (by omega) (by have := HKXW.out.size; simp; omega) ?_; intro v1 Y1 hown1 hk1 hb1; have HN1 := Lib.hid (keep_next (HDS9.out _ ((HK9.out.alloc (.cells #[.bool true] 4)).drew)) DISW.out hk1 hb1); obtain ⟨g1, c1, e1, O1, KX1, B1, Z1⟩ := own_next (HKX9.out.trans ((HK9.out.alloc (.cells #[.bool true] 4)).drew)) HLOW.out hown1 hk1 hb1; subst e1; clear hown1 hk1 hb1)
          go_roundg (N - (k + 1))
          case measure => have := HG.out; have := HLT.out; omega
          case rel => exact ⟨k + 1, HLT.out, rfl, by go_num, (by rw [wantTo_step, HWANT.out, List.map_append]; exact O1.out), KX1.out, HN1.out.1, HN1.out.2⟩
        case false =>
          iterate 3 (with_reducible refine still_at ?hw (fun K hK => ?_); (case hw => kernel_rfl); go_simp; with_reducible refine hK _ ?_; clear hK K)
          obtain ⟨tn, htn⟩ : ∃ tn, tn = !tp.toList.isEmpty := ⟨_, rfl⟩
          rw [← htn]
          rw [← htn] at HWK
          clear htn
          (with_reducible refine still_at ?hw (fun K hK => ?_); (case hw => kernel_rfl); go_simp; with_reducible refine hK _ ?_; clear hK K)
          cases tn
          case false =>
            iterate 8 (with_reducible refine skip_at ?hw ?_; case hw => kernel_rfl)
            iterate 2 (with_reducible refine still_at ?hw (fun K hK => ?_); (case hw => kernel_rfl); go_simp; with_reducible refine hK _ ?_; clear hK K)
            with_reducible refine wpStill_nil ?_
            have HWANT := Lib.hid (show wantB L D' p T k = b1 by rw [HWK.out]; simp)
            go_wp2_with (at_builtin; refine wpList_append_sl rfl (.tmp 87) (.tmp 89) 22 rfl X0.heap.size 4 i0 _ 1 1 Try.underlying22 hi hz0 hz1 hz2 rfl (by decide) (.slice va1 k vc1) k ((wantTo L D' p T k).map Value.bool) rfl (HOW9.out _ ((HK9.out.alloc (.cells #[.bool b1] 4)).drew)) _ 1 [.bool b1] rfl (Sl.keep (sl_made W3 1 1 #[.bool b1] 4 rfl (by decide)) ((Keep.refl (fun _ => False) _).drew) (fun _ _ _ e => e)) (fun u hu => by simp at hu; rw [hu]; rfl) (by unfold maxLen; omega) (by omega) (by have := HKXW.out.size; simp; omega) ?_; intro v1 Y1 hown1 hk1 hb1; have HN1 := Lib.hid (keep_next (HDS9.out _ ((HK9.out.alloc (.cells #[.bool b1] 4)).drew)) DISW.out hk1 hb1); obtain ⟨g1, c1, e1, O1, KX1, B1, Z1⟩ := own_next (HKX9.out.trans ((HK9.out.alloc (.cells #[.bool b1] 4)).drew)) HLOW.out hown1 hk1 hb1; subst e1; clear hown1 hk1 hb1)
            go_roundg (N - (k + 1))
            case measure => have := HG.out; have := HLT.out; omega
            case rel => exact ⟨k + 1, HLT.out, rfl, by go_num, (by rw [wantTo_step, HWANT.out, List.map_append]; exact O1.out), KX1.out, HN1.out.1, HN1.out.2⟩
          case true =>
            iterate 8 (with_reducible refine still_at ?hw (fun K hK => ?_); (case hw => kernel_rfl); go_simp; with_reducible refine hK _ ?_; clear hK K)
            obtain ⟨q, hq⟩ : ∃ q, q = (tk.toList == tp.toList) := ⟨_, rfl⟩
            rw [← hq]
            rw [← hq] at HWK
            clear hq
            iterate 2 (with_reducible refine still_at ?hw (fun K hK => ?_); (case hw => kernel_rfl); go_simp; with_reducible refine hK _ ?_; clear hK K)
            with_reducible refine wpStill_nil ?_
            cases q
            case false =>
              have HWANT := Lib.hid (show wantB L D' p T k = b1 by rw [HWK.out]; simp)
              go_wp2_with (at_builtin; refine wpList_append_sl rfl (.tmp 87) (.tmp 89) 22 rfl X0.heap.size 4 i0 _ 1 1 Try.underlying22 hi hz0 hz1 hz2 rfl (by decide) (.slice va1 k vc1) k ((wantTo L D' p T k).map Value.bool) rfl (HOW9.out _ ((HK9.out.alloc (.cells #[.bool b1] 4)).drew)) _ 1 [.bool b1] rfl (Sl.keep (sl_made W3 1 1 #[.bool b1] 4 rfl (by decide)) ((Keep.refl (fun _ => False) _).drew) (fun _ _ _ e => e)) (fun u hu => by simp at hu; rw [hu]; rfl) (by unfold maxLen; omega) (by omega) (by have := HKXW.out.size; simp; omega) ?_; intro v1 Y1 hown1 hk1 hb1; have HN1 := Lib.hid (keep_next (HDS9.out _ ((HK9.out.alloc (.cells #[.bool b1] 4)).drew)) DISW.out hk1 hb1); obtain ⟨g1, c1, e1, O1, KX1, B1, Z1⟩ := own_next (HKX9.out.trans ((HK9.out.alloc (.cells #[.bool b1] 4)).drew)) HLOW.out hown1 hk1 hb1; subst e1; clear hown1 hk1 hb1)
              go_roundg (N - (k + 1))
              case measure => have := HG.out; have := HLT.out; omega
              case rel => exact ⟨k + 1, HLT.out, rfl, by go_num, (by rw [wantTo_step, HWANT.out, List.map_append]; exact O1.out), KX1.out, HN1.out.1, HN1.out.2⟩
            case true =>
              have HWANT := Lib.hid (show wantB L D' p T k = true by rw [HWK.out]; simp)
              go_wp2_with (at_builtin; refine wpList_append_sl rfl (.tmp 87) (.tmp 89) 22 rfl X0.heap.size 4 i0 _ 1 1 Try.underlying22 hi hz0 hz1 hz2 rfl (by decide) (.slice va1 k vc1) k ((wantTo L D' p T k).map Value.bool) rfl (HOW9.out _ ((HK9.out.alloc (.cells #[.bool true] 4)).drew)) _ 1 [.bool true] rfl (Sl.keep (sl_made W3 1 1 #[.bool true] 4 rfl (by decide)) ((Keep.refl (fun _ => False) _).drew) (fun _ _ _ e => e)) (fun u hu => by simp at hu; rw [hu]; rfl) (by unfold maxLen; omega) (by omega) (by have := HKXW.out.size; simp; omega) ?_; intro v1 Y1 hown1 hk1 hb1; have HN1 := Lib.hid (keep_next (HDS9.out _ ((HK9.out.alloc (.cells #[.bool true] 4)).drew)) DISW.out hk1 hb1); obtain ⟨g1, c1, e1, O1, KX1, B1, Z1⟩ := own_next (HKX9.out.trans ((HK9.out.alloc (.cells #[.bool true] 4)).drew)) HLOW.out hown1 hk1 hb1; subst e1; clear hown1 hk1 hb1)
              go_roundg (N - (k + 1))
              case measure => have := HG.out; have := HLT.out; omega
              case rel => exact ⟨k + 1, HLT.out, rfl, by go_num, (by rw [wantTo_step, HWANT.out, List.map_append]; exact O1.out), KX1.out, HN1.out.1, HN1.out.2⟩
    · have hkN : k = N := by omega
      subst hkN
      obtain ⟨va1, vc1, rfl⟩ := own_slice HOW.out
      have HF := Lib.hid (Sl.of_owns HOW.out).1
      have HKF := Lib.hid (K0.out.trans HKX.out)
      clear hg hk hlt HOW HDS DIS
      go_wp2
      go_ret
      exact ⟨_, _, rfl, HKF.out, HF.out⟩
end Go.Proofs.Ytgnigkghkldcfaa
