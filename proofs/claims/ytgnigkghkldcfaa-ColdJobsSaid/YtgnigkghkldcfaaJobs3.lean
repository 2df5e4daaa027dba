/-
  coldstorelaw07.ColdJobs: true.
-/
import Derived.Test.YtgnigkghkldcfaaJobs2
import Derived.Deep.DrawnRows
import Derived.StillTailTactics
namespace Go.Proofs.Ytgnigkghkldcfaa
open Go.RowKit Go.Proofs Go.Lib

theorem ColdPost.heap {cb sb mb : Nat} {f : Value} {S : Nat → Prop} {c' : CS} {W W' : World} (h : ColdPost cb sb mb f S c' W W') {b : Nat} {o : Obj} (hb : W.heap[b]? = some o) (hn : ¬ S b ∧ b ≠ cb ∧ b ≠ mb) : W'.heap[b]? = some o := by
  obtain ⟨_, _, k, _⟩ := h
  exact k.heap hb (fun e => e.elim hn.1 (fun e => e.elim hn.2.1 hn.2.2))
theorem hbn {w wr W : World} {cb sb mb hb ib bxb : Nat} {f : Value} {S : Nat → Prop} {c : CS} {m : List (Bs × Value)} {inc : Array Value} (_j : J7 w W cb sb mb hb ib f S c m inc) (e : bxb = wr.heap.size) (j0 : J7 w wr cb sb mb hb ib f S c m inc) : ¬ S bxb ∧ bxb ≠ cb ∧ bxb ≠ mb := by
  have h1 := j0.c7.cold.lt
  have h2 := j0.c7.cold.st.lt
  exact ⟨fun e2 => by have := h2 _ e2; omega, by omega, by omega⟩
theorem sj7_all {W0 W : World} {cb sb mb hb ib : Nat} {f : Value} {S : Nat → Prop} {c : CS} {q jb fu li le : Int} {fv : Value} (j : SJ7 W0 W cb sb mb hb ib f S c (mapV strV c.o.row) q jb fu li le fv) : W.cell? ⟨ib, 1, none⟩ = some (.int .i64 jb) ∧ W.cell? ⟨cb, 0, none⟩ = some (.pointer (some ⟨sb, 0, none⟩)) ∧ (∀ ty : TypeId, (Builtin.len_ #[49] ty #[.map (some hb)]).run Try.prog W = .ok (.int .i64 c.o.row.length) W) ∧ SJ7 W0 W cb sb mb hb ib f S c (mapV strV c.o.row) q jb fu li le fv := by
  have := j.all
  rwa [length_mapV] at this

set_option maxRecDepth 100000 in
set_option maxHeartbeats 16000000 in
theorem jobs_short {w : World} {v fv : Value} {L : List (Op7 × Value)} {fl : List Bool} (hO : Ops7At w v L) (hf : fewB7 (L.map (·.1)) = true) (q jb fu li le : Int) (hb1 : (-9223372036854775808 ≤ q ∧ q ≤ 9223372036854775807) ∧ (-9223372036854775808 ≤ jb ∧ jb ≤ 9223372036854775807) ∧ (-9223372036854775808 ≤ li ∧ li ≤ 9223372036854775807) ∧ (-9223372036854775808 ≤ le ∧ le ≤ 9223372036854775807))
    (hfl : Sl w 1 fv fl.length (fl.map .bool)) (hfl60 : fl.length ≤ 60) (hR : right7 q jb li le = true) :
    Calls Try.prog 8 #[.agg #[.int .i64 q, .int .i64 jb, .int .i64 fu, .int .i64 li, .int .i64 le, fv], v] w fun e w' => e = .returned (.bool true) ∧ Keep (fun _ => False) w w' := by
  obtain ⟨va, vc, rfl⟩ : ∃ p k, v = .slice p L.length k := let ⟨_, p, k, e, _⟩ := hO.row; ⟨p, k, e⟩
  obtain ⟨fa, fc, rfl⟩ : ∃ p k, fv = .slice p fl.length k := let ⟨_, p, k, e, _⟩ := hfl; ⟨p, k, e⟩
  have HO := Lib.hid hO; have HFL := Lib.hid hfl; have HF := Lib.hid hf; have HR := Lib.hid hR
  obtain ⟨hq, hj, hli, hle⟩ := right7_of hR
  have hq2 := hb1.1.2
  have hfl' : (fl.length : Int) ≤ 60 := by omega
  have hmk := run_makeMap_all 49
  clear hO hf hfl hR hb1
  have ka := (Keep.refl (fun _ => False) w).alloc (.cells #[.int .i64 q, .int .i64 jb, .int .i64 fu, .int .i64 li, .int .i64 le, .slice fa fl.length fc] 67)
  have hbx := alloc_new w (.cells #[.int .i64 q, .int .i64 jb, .int .i64 fu, .int .i64 li, .int .i64 le, .slice fa fl.length fc] 67)
  obtain ⟨ib, hib⟩ : ∃ b, b = w.heap.size := ⟨_, rfl⟩
  rw [← hib] at hbx
  have KA := Lib.hid ka; have HBX := Lib.hid hbx; have HIB := Lib.hid hib
  clear ka hbx hib
  go_enter Try.func8, Try.ntmps8
  go_wp2_with fail
  rw [← HIB.out]
  refine (alive7_any _).mono ?_
  rintro e w1 ⟨rfl, k1⟩
  have K1 := Lib.hid (KA.out.trans k1); have B1 := Lib.hid (k1.heap HBX.out id)
  clear k1
  go_wp2_with fail
  refine (few7_any (HO.out.keep K1.out (fun _ _ e => e))).mono ?_
  rintro e w2 ⟨rfl, k2⟩
  rw [HF.out]
  have K2 := Lib.hid (K1.out.trans k2); have B2 := Lib.hid (k2.heap B1.out id)
  have c0 : w2.cell? ⟨ib, 0, none⟩ = some (.int .i64 q) := by rw [cell_blk B2.out]; rfl
  have c1 : w2.cell? ⟨ib, 1, none⟩ = some (.int .i64 jb) := by rw [cell_blk B2.out]; rfl
  have c3 : w2.cell? ⟨ib, 3, none⟩ = some (.int .i64 li) := by rw [cell_blk B2.out]; rfl
  have c4 : w2.cell? ⟨ib, 4, none⟩ = some (.int .i64 le) := by rw [cell_blk B2.out]; rfl
  have c5 : w2.cell? ⟨ib, 5, none⟩ = some (.slice fa fl.length fc) := by rw [cell_blk B2.out]; rfl
  clear k2
  go_wp2_with fail
  refine (right7_any q jb li le _).mono ?_
  rintro e w3 ⟨rfl, rfl⟩
  rw [HR.out]
  go_wp2_with fail
  refine (cnew_any q jb li le _ ⟨hq, hq2⟩ hj hli hle).mono ?_
  rintro e W1 ⟨cb, sb, mb, S1, rfl, h1, q1, q2, q3, q4⟩
  have hS1 := h1.st.lt
  have J1 := Lib.hid (show C7 w W1 cb sb mb (.pointer none) S1 (CS.new q jb li le) from ⟨h1, fun x e => Nat.le_trans K2.out.size (q2 x e), Nat.le_trans K2.out.size q3, Nat.le_trans K2.out.size q4, K2.out.trans q1⟩)
  have B3 := Lib.hid (q1.heap B2.out id)
  have hib1 : Hid (¬ S1 ib ∧ ib ≠ cb ∧ ib ≠ mb) := by
    have := lt_blk B2.out
    exact ⟨fun e => by have := q2 _ e; omega, by omega, by omega⟩
  clear h1 q1 q2 q3 q4 c0 c1 c3 c4 c5 hS1
  have d5 : W1.cell? ⟨ib, 5, none⟩ = some (.slice fa fl.length fc) := by rw [cell_blk B3.out]; rfl
  have d0 : W1.cell? ⟨cb, 0, none⟩ = some (.pointer (some ⟨sb, 0, none⟩)) := by rw [cell_blk J1.out.cold.blk]; rfl
  have HA := Lib.hid (arm_any (J1.out.still (Keep.refl _ W1).drew).cold.st (.pointer none) (-1) (.inl ⟨rfl, rfl⟩) _ fl (Sl.keep HFL.out (J1.out.still (Keep.refl _ W1).drew).keep (fun _ _ _ e => e)) (by omega))
  go_wp2_with fail
  go_still_tail 6, (by kernel_rfl)
  go_wp2_with fail
  refine HA.out.mono ?_
  rintro e w' h11
  obtain ⟨S2, rfl, j2, k2, g2⟩ := (J1.out.still (Keep.refl _ W1).drew).cold.arm h11 (fun x e => by cases e)
  have J1d := Lib.hid (J1.out.still (Keep.refl _ W1).drew)
  clear d5 d0 h11
  have hw2 : w.heap.size ≤ w'.heap.size := Nat.le_trans J1d.out.keep.size k2.size
  have J2 : J7 w (w'.alloc (.map #[] 0)) cb sb mb w'.heap.size ib (.pointer none) S2 { CS.new q jb li le with o := (CS.new q jb li le).o.arm (-1) fl } (mapV strV []) #[.int .i64 q, .int .i64 jb, .int .i64 fu, .int .i64 li, .int .i64 le, .slice fa fl.length fc] := by
    have ka := (Keep.refl (fun _ => False) w').alloc (.map #[] 0)
    have hsz := j2.lt
    have hS2 := j2.st.lt
    have hS1 := J1.out.cold.st.self
    refine ⟨⟨j2.keep0 ka, fun x e => ?_, J1.out.lcb, J1.out.lmb, (J1d.out.keep.trans' k2 (fun _ _ e => e) (fun i hi e => by have := J1.out.low sb hS1; omega)).trans ka⟩, MapP.made w', ka.heap (k2.heap (drew_blk B3.out) (fun e => hib1.out.1 (by rw [e]; exact hS1))) id, ⟨fun e => by have := hS2 _ e; omega, by omega, by omega⟩, ⟨fun e => ?_, hib1.out.2⟩, hw2⟩
    · rcases g2 x e with e | e | e
      · exact J1.out.low x e
      · cases e
      · exact Nat.le_trans J1d.out.keep.size e
    · rcases g2 _ e with e | e | e
      · exact hib1.out.1 e
      · cases e
      · have := lt_blk B3.out; have e : W1.heap.size ≤ ib := e; omega
  obtain ⟨hb, hhb⟩ : ∃ hb, hb = w'.heap.size := ⟨_, rfl⟩
  rw [← hhb] at J2
  have HHB := Lib.hid hhb
  have JI0 := Lib.hid (show JI jb 0 0 { CS.new q jb li le with o := (CS.new q jb li le).o.arm (-1) fl } from ⟨rfl, rfl, rfl, Int.le_refl _, rfl, Nat.le_refl _, by show ((pendN li 0 [] : Nat) : Int) ≤ jb; show ((0 : Nat) : Int) ≤ jb; omega⟩)
  have J2 := Lib.hid J2
  obtain ⟨N, hN⟩ : ∃ N : Nat, N = L.length := ⟨_, rfl⟩
  have HN := Lib.hid hN
  have hN50 : N ≤ 50 := by
    have := HF.out
    unfold fewB7 at this
    simp at this
    omega
  rw [← hN]
  clear hN hhb j2 k2 g2 hw2 hib1
  go_wp2
  rw [← HHB.out]
  clear hmk
  go_loopg [8, 61] N (fun g v8 v61 wr => ∃ (i : Nat) (now : Int) (c : CS) (S : Nat → Prop), i ≤ N ∧ g = N - i ∧ v61 = .int .i64 i ∧ v8 = .int .i64 now ∧ 0 ≤ now ∧ now ≤ 255 * i ∧ Hid (JI jb i now c) ∧ Hid (J7 w wr cb sb mb hb ib (.pointer none) S c (mapV strV c.o.row) #[.int .i64 q, .int .i64 jb, .int .i64 fu, .int .i64 li, .int .i64 le, .slice fa fl.length fc]))
  case atStart => exact ⟨0, 0, _, S2, Nat.zero_le _, rfl, rfl, rfl, Int.le_refl _, by omega, JI0, J2⟩
  case round =>
    clear J2 JI0
    obtain ⟨i, now, c, S, hi, hg, rfl, rfl, hn0, hn1, HI, J⟩ := hrel
    by_cases hlt : i < N
    · obtain ⟨o, ho⟩ : ∃ o, L[i]? = some o := ⟨_, List.getElem?_eq_getElem (by rw [← HN.out]; exact hlt)⟩
      have hOr := HO.out.keep J.out.c7.keep (fun _ _ e => e)
      obtain ⟨vb, vo, vc', ev, v1, v2⟩ := Sl.base HO.out.row (by rw [← HN.out]; omega)
      cases ev
      obtain ⟨c0, c1, c2, c3, c4, c5⟩ := hOr.cells ho
      have hpb := HO.out.bytes o (List.mem_of_getElem? ho)
      have hps : shortOp7 o.1 = true := by
        have := HF.out
        unfold fewB7 at this
        rw [Bool.and_eq_true] at this
        exact List.all_eq_true.1 this.1 _ (List.mem_map.2 ⟨_, List.mem_of_getElem? ho, rfl⟩)
      obtain ⟨⟨kind, name, bs, onow, wait, force⟩, bv⟩ := o
      obtain ⟨ba, bc, rfl⟩ : ∃ a c, bv = .slice a bs.length c := let ⟨_, a, c, e, _⟩ := hpb; ⟨a, c, e⟩
      simp only [strV] at c1
      dsimp only at c0 c2 c3 c4 c5 hpb
      unfold shortOp7 at hps
      simp at hps
      rw [← HN.out] at v1
      unfold maxLen at v2
      obtain ⟨M, eM, -, hM1', hM2'⟩ := mask_in 8 (by decide) 255 (by decide) onow
      obtain ⟨V, eV, -, hV1', hV2'⟩ := mask_in 8 (by decide) 255 (by decide) wait
      simp only [Nat.reducePow] at hM2' hV2'
      have hM : 0 ≤ M ∧ M ≤ 255 := by omega
      have hV : 0 ≤ V ∧ V ≤ 255 := by omega
      clear hM1' hM2' hV1' hV2'
      obtain ⟨hM1, hM2⟩ := hM
      obtain ⟨hV1, hV2⟩ := hV
      have i1 : (0 : Int) ≤ i := by omega
      have i2 : (i : Int) < N := by omega
      obtain ⟨nm, hnm⟩ : ∃ nm : ByteArray, nm = ⟨name.toArray⟩ := ⟨_, rfl⟩
      have hnml : nm.data.toList = name := by rw [hnm]
      have hnms : nm.size ≤ maxLen := by
        rw [hnm]
        show name.toArray.size ≤ _
        rw [List.size_toArray]
        unfold maxLen; omega
      rw [← hnm] at c1
      have ka := (Keep.refl (fun _ => False) wr).alloc (.cells #[.int .i64 kind, .string nm, .slice ba bs.length bc, .int .i64 onow, .int .i64 wait, .bool force] 78)
      have hbb := alloc_new wr (.cells #[.int .i64 kind, .string nm, .slice ba bs.length bc, .int .i64 onow, .int .i64 wait, .bool force] 78)
      have JA := Lib.hid (J.out.still ka)
      have HI1 := Lib.hid (HI.out.time (now' := now + M) (by omega))
      have HG := Lib.hid hg; have HNL := Lib.hid hnml; have HPB := Lib.hid hpb
      have hlook := MapP.look_ok Try.underlying9 Try.underlying49 JA.out.map nm hnms (zero_string _)
      have hl0 : c.o.left ≠ 0 := by rw [HI.out.left]; decide
      have ho0 : c.o.ops < 4611686018427387904 := by have := HI.out.ops; omega
      have hlo : c.lost ≤ 4000000000000000000 := by rw [HI.out.lost]; decide
      have hma : c.notes.length ≤ 4096 := by have h1 := HI.out.keys.len; have h2 := HI.out.len; omega
      have HC := Lib.hid (And.intro hl0 (And.intro ho0 (And.intro hlo hma)))
      have HRn := Lib.hid J.out.c7.cold.ok.rising
      have HRr := Lib.hid J.out.c7.cold.st.ok.rising
      rw [hnml, lk_mapV] at hlook
      obtain ⟨bxb, hbxb⟩ : ∃ b, b = wr.heap.size := ⟨_, rfl⟩
      rw [← hbxb] at hbb
      have HBB := Lib.hid hbb; have HBX := Lib.hid hbxb
      clear hg hnml hnm hl0 ho0 hlo hma hOr ho hpb ka hbb hbxb
      have hk : (kind = 0 ∨ kind = 1) ∨ kind = 2 ∨ kind = 3 ∨ kind = 4 ∨ kind = 5 ∨ (kind ≠ 0 ∧ kind ≠ 1 ∧ kind ≠ 2 ∧ kind ≠ 3 ∧ kind ≠ 4 ∧ kind ≠ 5) := by omega
      rcases hk with hk | rfl | rfl | rfl | rfl | ⟨n0, n1', n2, n3, n4, n5⟩
      · have hbs : BytesAt (wr.alloc (.cells #[.int .i64 kind, .string nm, .slice ba bs.length bc, .int .i64 onow, .int .i64 wait, .bool force] 78)) (.slice ba bs.length bc) bs := Sl.keep HPB.out JA.out.c7.keep (fun _ _ _ e => e)
        have HPC := Lib.hid (cput_any JA.out.c7.cold HC.out.1 HC.out.2.1 HC.out.2.2.1 HC.out.2.2.2 nm hnms _ bs hbs (by omega) (now + M) (by omega))
        clear hbs
        cases hth : lk c.o.row name with
        | some b0 =>
          rw [hth] at hlook
          simp only [Option.map_some, Option.getD_some, Option.isSome_some, strV] at hlook
          have HE := Lib.hid HI1.out.idle
          obtain ⟨c5, hc5⟩ : ∃ c5, c5 = c := ⟨_, rfl⟩
          obtain ⟨S5, hS5⟩ : ∃ S5, S5 = S := ⟨_, rfl⟩
          have JE := JA
          rw [← hc5] at HE JE; rw [← hS5] at JE
          obtain ⟨W5, hW5⟩ : ∃ W5, W5 = wr.alloc (.cells #[.int .i64 kind, .string nm, .slice ba bs.length bc, .int .i64 onow, .int .i64 wait, .bool force] 78) := ⟨_, rfl⟩
          rw [← hW5] at JE
          have HW5 := Lib.hid hW5
          clear hc5 hS5 HPC hth hW5
          rcases hk with rfl | rfl
          all_goals go_wp2_with fail
          all_goals rw [← HW5.out]
          all_goals clear hlook HW5
          all_goals
            as_aux_lemma =>
              have j0 : SJ7 W5 W5 cb sb mb hb ib (.pointer none) S5 c5 (mapV strV c5.o.row) q jb fu li le (.slice fa fl.length fc) := ⟨JE.out.c7.cold, JE.out.map, JE.out.box, Keep.refl _ _⟩
              obtain ⟨z0, z1, z2, -⟩ := j0.all
              obtain ⟨P, hP⟩ : ∃ P, P = c5.pend (now + M) := ⟨_, rfl⟩
              have HP := Lib.hid hP
              have hPj : (P : Int) ≤ jb := by rw [hP]; exact HE.out.pend
              have hPc := fun W (j : SJ7 W5 W cb sb mb hb ib (.pointer none) S5 c5 (mapV strV c5.o.row) q jb fu li le (.slice fa fl.length fc)) => cpending_any j.cold (now + M) (by omega)
              rw [← hP] at hPc
              have HPC := Lib.hid hPc
              have hlc : ∀ W, SJ7 W5 W cb sb mb hb ib (.pointer none) S5 c5 (mapV strV c5.o.row) q jb fu li le (.slice fa fl.length fc) → Calls Try.prog 51 #[.pointer (some ⟨cb, 0, none⟩)] W fun e w' => e = .returned (.int .i64 0) ∧ W = w' := fun W j => by have := lost_any j.cold; rw [HE.out.lost] at this; exact this
              have HLC := Lib.hid hlc
              have hlen5 : (mapV strV c5.o.row).length = c5.o.row.length := length_mapV _ _
              rw [hlen5] at z2
              have HLN := Lib.hid (fun W (j : SJ7 W5 W cb sb mb hb ib (.pointer none) S5 c5 (mapV strV c5.o.row) q jb fu li le (.slice fa fl.length fc)) => j.cold.st.len)
              have hPd : decide (jb < (P : Int)) = false := by rw [decide_eq_false_iff_not]; omega
              clear hP hPc hlc hlen5
              go_region_held3 (fun w' => w'.cell? ⟨ib, 1, none⟩ = some (.int .i64 jb) ∧ w'.cell? ⟨cb, 0, none⟩ = some (.pointer (some ⟨sb, 0, none⟩)) ∧ (∀ ty : TypeId, (Builtin.len_ #[49] ty #[.map (some hb)]).run Try.prog w' = .ok (.int .i64 c5.o.row.length) w') ∧ SJ7 W5 w' cb sb mb hb ib (.pointer none) S5 c5 (mapV strV c5.o.row) q jb fu li le (.slice fa fl.length fc))
                (first | exact sj7_all (by first | assumption | exact SJ7.of (by assumption)) | exact sj7_all (SJ7.drew (by first | assumption | exact SJ7.of (by assumption))))
                (first | (go_at_call 50; refine (HPC.out _ (by first | assumption | exact SJ7.of (by assumption))).mono ?_; rintro e w' ⟨rfl, k9⟩; have j9 := SJ7.still (by first | assumption | exact SJ7.of (by assumption)) k9) | (go_at_call 51; refine (HLC.out _ (by first | assumption | exact SJ7.of (by assumption))).mono ?_; rintro e w' ⟨rfl, rfl⟩) | (go_at_call 31; refine (HLN.out _ (by first | assumption | exact SJ7.of (by assumption))).mono ?_; rintro e w' ⟨rfl, rfl⟩))
              have j8 : SJ7 W5 w' cb sb mb hb ib (.pointer none) S5 c5 (mapV strV c5.o.row) q jb fu li le (.slice fa fl.length fc) := by first | assumption | exact SJ7.of (by assumption)
              have J8 := Lib.hid (JE.out.still j8.keep)
              clear z0 z1 z2
              go_wp2
              go_roundg (N - (i + 1))
              case measure => have := HG.out; omega
              case rel => exact ⟨i + 1, now + M, c5, S5, by omega, rfl, by go_num, rfl, by omega, by omega, HE.out, J8.out⟩
        | none =>
          rw [hth] at hlook
          simp only [Option.map_none, Option.getD_none, Option.isSome_none] at hlook
          obtain ⟨code, hcode⟩ : ∃ k, k = c.o.putCode name bs := ⟨_, rfl⟩
          have hput := HI1.out.put HRr.out (b := bs) hth
          rw [← hcode] at hput
          have HPU := Lib.hid hput; have HCO := Lib.hid hcode
          obtain ⟨c5, hc5⟩ : ∃ c5, c5 = c.put name bs (now + M) := ⟨_, rfl⟩
          have HC5 := Lib.hid hc5
          clear hput hcode hth hc5
          by_cases hc : code = 0
          · subst hc
            have hrow : c5.o.row = putK name bs c.o.row := by rw [HC5.out, HPU.out.2, if_pos rfl]
            have HROW := Lib.hid hrow
            have HE := Lib.hid (show JI jb (i + 1) (now + M) c5 by rw [HC5.out]; exact HPU.out.1)
            clear hrow
            rcases hk with rfl | rfl
            all_goals go_wp2_with fail
            all_goals rw [← HBX.out]
            all_goals refine HPC.out.mono ?_
            all_goals rintro e W2 ⟨rfl, p2⟩
            all_goals have b2 := p2.heap HBB.out (hbn JA.out HBX.out J.out)
            all_goals obtain ⟨S5, j2⟩ := JA.out.post p2
            all_goals rw [HNL.out, ← HCO.out]
            all_goals rw [HNL.out, ← HC5.out] at j2
            all_goals have d1 : W2.cell? ⟨bxb, 1, none⟩ = some (.string nm) := by rw [cell_blk b2]; rfl
            all_goals have d2 : W2.cell? ⟨bxb, 2, none⟩ = some (.slice ba bs.length bc) := by rw [cell_blk b2]; rfl
            all_goals have hconv := conv_str (Sl.keep HPB.out j2.c7.keep (fun _ _ _ e => e))
            all_goals obtain ⟨W5, hupd, hm5, hk5⟩ := MapP.update Try.underlying9 Try.underlying49 j2.map nm hnms (by rw [length_mapV]; have := HI.out.len; unfold maxLen; omega) (strV bs)
            all_goals have j5 := j2.put hm5 hk5
            all_goals rw [HNL.out, putK_mapV, ← HROW.out] at j5
            all_goals have JE := Lib.hid j5
            all_goals simp only [strV] at hconv hupd
            all_goals clear p2 b2 j2 hm5 hk5 j5 hlook
            all_goals go_wp2_with fail
            all_goals clear hconv hupd d1 d2
            all_goals
              as_aux_lemma =>
                have j0 : SJ7 W5 W5 cb sb mb hb ib (.pointer none) S5 c5 (mapV strV c5.o.row) q jb fu li le (.slice fa fl.length fc) := ⟨JE.out.c7.cold, JE.out.map, JE.out.box, Keep.refl _ _⟩
                obtain ⟨z0, z1, z2, -⟩ := j0.all
                obtain ⟨P, hP⟩ : ∃ P, P = c5.pend (now + M) := ⟨_, rfl⟩
                have HP := Lib.hid hP
                have hPj : (P : Int) ≤ jb := by rw [hP]; exact HE.out.pend
                have hPc := fun W (j : SJ7 W5 W cb sb mb hb ib (.pointer none) S5 c5 (mapV strV c5.o.row) q jb fu li le (.slice fa fl.length fc)) => cpending_any j.cold (now + M) (by omega)
                rw [← hP] at hPc
                have HPC := Lib.hid hPc
                have hlc : ∀ W, SJ7 W5 W cb sb mb hb ib (.pointer none) S5 c5 (mapV strV c5.o.row) q jb fu li le (.slice fa fl.length fc) → Calls Try.prog 51 #[.pointer (some ⟨cb, 0, none⟩)] W fun e w' => e = .returned (.int .i64 0) ∧ W = w' := fun W j => by have := lost_any j.cold; rw [HE.out.lost] at this; exact this
                have HLC := Lib.hid hlc
                have hlen5 : (mapV strV c5.o.row).length = c5.o.row.length := length_mapV _ _
                rw [hlen5] at z2
                have HLN := Lib.hid (fun W (j : SJ7 W5 W cb sb mb hb ib (.pointer none) S5 c5 (mapV strV c5.o.row) q jb fu li le (.slice fa fl.length fc)) => j.cold.st.len)
                have hPd : decide (jb < (P : Int)) = false := by rw [decide_eq_false_iff_not]; omega
                clear hP hPc hlc hlen5
                go_region_held3 (fun w' => w'.cell? ⟨ib, 1, none⟩ = some (.int .i64 jb) ∧ w'.cell? ⟨cb, 0, none⟩ = some (.pointer (some ⟨sb, 0, none⟩)) ∧ (∀ ty : TypeId, (Builtin.len_ #[49] ty #[.map (some hb)]).run Try.prog w' = .ok (.int .i64 c5.o.row.length) w') ∧ SJ7 W5 w' cb sb mb hb ib (.pointer none) S5 c5 (mapV strV c5.o.row) q jb fu li le (.slice fa fl.length fc))
                  (first | exact sj7_all (by first | assumption | exact SJ7.of (by assumption)) | exact sj7_all (SJ7.drew (by first | assumption | exact SJ7.of (by assumption))))
                  (first | (go_at_call 50; refine (HPC.out _ (by first | assumption | exact SJ7.of (by assumption))).mono ?_; rintro e w' ⟨rfl, k9⟩; have j9 := SJ7.still (by first | assumption | exact SJ7.of (by assumption)) k9) | (go_at_call 51; refine (HLC.out _ (by first | assumption | exact SJ7.of (by assumption))).mono ?_; rintro e w' ⟨rfl, rfl⟩) | (go_at_call 31; refine (HLN.out _ (by first | assumption | exact SJ7.of (by assumption))).mono ?_; rintro e w' ⟨rfl, rfl⟩))
                have j8 : SJ7 W5 w' cb sb mb hb ib (.pointer none) S5 c5 (mapV strV c5.o.row) q jb fu li le (.slice fa fl.length fc) := by first | assumption | exact SJ7.of (by assumption)
                have J8 := Lib.hid (JE.out.still j8.keep)
                clear z0 z1 z2
                go_wp2
                go_roundg (N - (i + 1))
                case measure => have := HG.out; omega
                case rel => exact ⟨i + 1, now + M, c5, S5, by omega, rfl, by go_num, rfl, by omega, by omega, HE.out, J8.out⟩
          · have hcb : (code == 0) = false := by simpa using hc
            have hrow : c5.o.row = c.o.row := by rw [HC5.out, HPU.out.2, if_neg hc]
            have HROW := Lib.hid hrow
            have HE := Lib.hid (show JI jb (i + 1) (now + M) c5 by rw [HC5.out]; exact HPU.out.1)
            clear hrow hc
            rcases hk with rfl | rfl
            all_goals go_wp2_with fail
            all_goals rw [← HBX.out]
            all_goals refine HPC.out.mono ?_
            all_goals rintro e W5 ⟨rfl, p2⟩
            all_goals obtain ⟨S5, j2⟩ := JA.out.post p2
            all_goals rw [HNL.out, ← HCO.out]
            all_goals rw [HNL.out, ← HC5.out, ← HROW.out] at j2
            all_goals have JE := Lib.hid j2
            all_goals clear p2 j2 hlook
            all_goals go_wp2_with fail
            all_goals clear hcb
            all_goals
              as_aux_lemma =>
                have j0 : SJ7 W5 W5 cb sb mb hb ib (.pointer none) S5 c5 (mapV strV c5.o.row) q jb fu li le (.slice fa fl.length fc) := ⟨JE.out.c7.cold, JE.out.map, JE.out.box, Keep.refl _ _⟩
                obtain ⟨z0, z1, z2, -⟩ := j0.all
                obtain ⟨P, hP⟩ : ∃ P, P = c5.pend (now + M) := ⟨_, rfl⟩
                have HP := Lib.hid hP
                have hPj : (P : Int) ≤ jb := by rw [hP]; exact HE.out.pend
                have hPc := fun W (j : SJ7 W5 W cb sb mb hb ib (.pointer none) S5 c5 (mapV strV c5.o.row) q jb fu li le (.slice fa fl.length fc)) => cpending_any j.cold (now + M) (by omega)
                rw [← hP] at hPc
                have HPC := Lib.hid hPc
                have hlc : ∀ W, SJ7 W5 W cb sb mb hb ib (.pointer none) S5 c5 (mapV strV c5.o.row) q jb fu li le (.slice fa fl.length fc) → Calls Try.prog 51 #[.pointer (some ⟨cb, 0, none⟩)] W fun e w' => e = .returned (.int .i64 0) ∧ W = w' := fun W j => by have := lost_any j.cold; rw [HE.out.lost] at this; exact this
                have HLC := Lib.hid hlc
                have hlen5 : (mapV strV c5.o.row).length = c5.o.row.length := length_mapV _ _
                rw [hlen5] at z2
                have HLN := Lib.hid (fun W (j : SJ7 W5 W cb sb mb hb ib (.pointer none) S5 c5 (mapV strV c5.o.row) q jb fu li le (.slice fa fl.length fc)) => j.cold.st.len)
                have hPd : decide (jb < (P : Int)) = false := by rw [decide_eq_false_iff_not]; omega
                clear hP hPc hlc hlen5
                go_region_held3 (fun w' => w'.cell? ⟨ib, 1, none⟩ = some (.int .i64 jb) ∧ w'.cell? ⟨cb, 0, none⟩ = some (.pointer (some ⟨sb, 0, none⟩)) ∧ (∀ ty : TypeId, (Builtin.len_ #[49] ty #[.map (some hb)]).run Try.prog w' = .ok (.int .i64 c5.o.row.length) w') ∧ SJ7 W5 w' cb sb mb hb ib (.pointer none) S5 c5 (mapV strV c5.o.row) q jb fu li le (.slice fa fl.length fc))
                  (first | exact sj7_all (by first | assumption | exact SJ7.of (by assumption)) | exact sj7_all (SJ7.drew (by first | assumption | exact SJ7.of (by assumption))))
                  (first | (go_at_call 50; refine (HPC.out _ (by first | assumption | exact SJ7.of (by assumption))).mono ?_; rintro e w' ⟨rfl, k9⟩; have j9 := SJ7.still (by first | assumption | exact SJ7.of (by assumption)) k9) | (go_at_call 51; refine (HLC.out _ (by first | assumption | exact SJ7.of (by assumption))).mono ?_; rintro e w' ⟨rfl, rfl⟩) | (go_at_call 31; refine (HLN.out _ (by first | assumption | exact SJ7.of (by assumption))).mono ?_; rintro e w' ⟨rfl, rfl⟩))
                have j8 : SJ7 W5 w' cb sb mb hb ib (.pointer none) S5 c5 (mapV strV c5.o.row) q jb fu li le (.slice fa fl.length fc) := by first | assumption | exact SJ7.of (by assumption)
                have J8 := Lib.hid (JE.out.still j8.keep)
                clear z0 z1 z2
                go_wp2
                go_roundg (N - (i + 1))
                case measure => have := HG.out; omega
                case rel => exact ⟨i + 1, now + M, c5, S5, by omega, rfl, by go_num, rfl, by omega, by omega, HE.out, J8.out⟩
      · have HDR := Lib.hid (cdrop_any JA.out.c7.cold HC.out.1 HC.out.2.1 HC.out.2.2.1 nm hnms (now + M) (by omega) false)
        obtain ⟨code, hcode⟩ : ∃ k, k = c.dropCode name (now + M) false := ⟨_, rfl⟩
        have hdr := HI1.out.drop (nm := name)
        rw [← hcode] at hdr
        have HPU := Lib.hid hdr; have HCO := Lib.hid hcode
        obtain ⟨c5, hc5⟩ : ∃ c5, c5 = c.drop name (now + M) false := ⟨_, rfl⟩
        have HC5 := Lib.hid hc5
        have HE := Lib.hid (show JI jb (i + 1) (now + M) c5 by rw [HC5.out]; exact HPU.out.1)
        clear hdr hcode hc5
        obtain ⟨xb, tb, hx⟩ : ∃ (x : ByteArray) (t : Bool), (((lk c.o.row name).map strV).getD (.string ⟨#[]⟩), ((lk c.o.row name).map strV).isSome) = (.string x, t) := by
          cases lk c.o.row name with
          | none => exact ⟨_, _, rfl⟩
          | some b => exact ⟨_, _, rfl⟩
        rw [(Prod.mk.inj hx).1, (Prod.mk.inj hx).2] at hlook
        clear hx
        by_cases hc : code = 0
        · subst hc
          have hrow : c5.o.row = delK name c.o.row := by rw [HC5.out, HPU.out.2, if_pos rfl]
          have HROW := Lib.hid hrow
          clear hrow
          go_wp2_with fail
          rw [← HBX.out]
          refine HDR.out.mono ?_
          rintro e W2 ⟨rfl, p2⟩
          have b2 := p2.heap HBB.out (hbn JA.out HBX.out J.out)
          obtain ⟨S5, j2⟩ := JA.out.post p2
          rw [HNL.out, ← HCO.out]
          rw [HNL.out, ← HC5.out] at j2
          have d1 : W2.cell? ⟨bxb, 1, none⟩ = some (.string nm) := by rw [cell_blk b2]; rfl
          obtain ⟨W5, hdel, hm5, hk5⟩ := MapP.drop Try.underlying9 Try.underlying49 j2.map nm hnms 0
          have j5 := j2.put hm5 hk5
          rw [HNL.out, delK_mapV, ← HROW.out] at j5
          have JE := Lib.hid j5
          clear p2 b2 j2 hm5 hk5 j5 hlook
          go_wp2_with fail
          clear hdel d1
          all_goals
            as_aux_lemma =>
              have j0 : SJ7 W5 W5 cb sb mb hb ib (.pointer none) S5 c5 (mapV strV c5.o.row) q jb fu li le (.slice fa fl.length fc) := ⟨JE.out.c7.cold, JE.out.map, JE.out.box, Keep.refl _ _⟩
              obtain ⟨z0, z1, z2, -⟩ := j0.all
              obtain ⟨P, hP⟩ : ∃ P, P = c5.pend (now + M) := ⟨_, rfl⟩
              have HP := Lib.hid hP
              have hPj : (P : Int) ≤ jb := by rw [hP]; exact HE.out.pend
              have hPc := fun W (j : SJ7 W5 W cb sb mb hb ib (.pointer none) S5 c5 (mapV strV c5.o.row) q jb fu li le (.slice fa fl.length fc)) => cpending_any j.cold (now + M) (by omega)
              rw [← hP] at hPc
              have HPC := Lib.hid hPc
              have hlc : ∀ W, SJ7 W5 W cb sb mb hb ib (.pointer none) S5 c5 (mapV strV c5.o.row) q jb fu li le (.slice fa fl.length fc) → Calls Try.prog 51 #[.pointer (some ⟨cb, 0, none⟩)] W fun e w' => e = .returned (.int .i64 0) ∧ W = w' := fun W j => by have := lost_any j.cold; rw [HE.out.lost] at this; exact this
              have HLC := Lib.hid hlc
              have hlen5 : (mapV strV c5.o.row).length = c5.o.row.length := length_mapV _ _
              rw [hlen5] at z2
              have HLN := Lib.hid (fun W (j : SJ7 W5 W cb sb mb hb ib (.pointer none) S5 c5 (mapV strV c5.o.row) q jb fu li le (.slice fa fl.length fc)) => j.cold.st.len)
              have hPd : decide (jb < (P : Int)) = false := by rw [decide_eq_false_iff_not]; omega
              clear hP hPc hlc hlen5
              go_region_held3 (fun w' => w'.cell? ⟨ib, 1, none⟩ = some (.int .i64 jb) ∧ w'.cell? ⟨cb, 0, none⟩ = some (.pointer (some ⟨sb, 0, none⟩)) ∧ (∀ ty : TypeId, (Builtin.len_ #[49] ty #[.map (some hb)]).run Try.prog w' = .ok (.int .i64 c5.o.row.length) w') ∧ SJ7 W5 w' cb sb mb hb ib (.pointer none) S5 c5 (mapV strV c5.o.row) q jb fu li le (.slice fa fl.length fc))
                (first | exact sj7_all (by first | assumption | exact SJ7.of (by assumption)) | exact sj7_all (SJ7.drew (by first | assumption | exact SJ7.of (by assumption))))
                (first | (go_at_call 50; refine (HPC.out _ (by first | assumption | exact SJ7.of (by assumption))).mono ?_; rintro e w' ⟨rfl, k9⟩; have j9 := SJ7.still (by first | assumption | exact SJ7.of (by assumption)) k9) | (go_at_call 51; refine (HLC.out _ (by first | assumption | exact SJ7.of (by assumption))).mono ?_; rintro e w' ⟨rfl, rfl⟩) | (go_at_call 31; refine (HLN.out _ (by first | assumption | exact SJ7.of (by assumption))).mono ?_; rintro e w' ⟨rfl, rfl⟩))
              have j8 : SJ7 W5 w' cb sb mb hb ib (.pointer none) S5 c5 (mapV strV c5.o.row) q jb fu li le (.slice fa fl.length fc) := by first | assumption | exact SJ7.of (by assumption)
              have J8 := Lib.hid (JE.out.still j8.keep)
              clear z0 z1 z2
              go_wp2
              go_roundg (N - (i + 1))
              case measure => have := HG.out; omega
              case rel => exact ⟨i + 1, now + M, c5, S5, by omega, rfl, by go_num, rfl, by omega, by omega, HE.out, J8.out⟩
        · have hcb : (code == 0) = false := by simpa using hc
          have hrow : c5.o.row = c.o.row := by rw [HC5.out, HPU.out.2, if_neg hc]
          have HROW := Lib.hid hrow
          clear hrow hc
          go_wp2_with fail
          rw [← HBX.out]
          refine HDR.out.mono ?_
          rintro e W5 ⟨rfl, p2⟩
          obtain ⟨S5, j2⟩ := JA.out.post p2
          rw [HNL.out, ← HCO.out]
          rw [HNL.out, ← HC5.out, ← HROW.out] at j2
          have JE := Lib.hid j2
          clear p2 j2 hlook
          go_wp2_with fail
          clear hcb
          all_goals
            as_aux_lemma =>
              have j0 : SJ7 W5 W5 cb sb mb hb ib (.pointer none) S5 c5 (mapV strV c5.o.row) q jb fu li le (.slice fa fl.length fc) := ⟨JE.out.c7.cold, JE.out.map, JE.out.box, Keep.refl _ _⟩
              obtain ⟨z0, z1, z2, -⟩ := j0.all
              obtain ⟨P, hP⟩ : ∃ P, P = c5.pend (now + M) := ⟨_, rfl⟩
              have HP := Lib.hid hP
              have hPj : (P : Int) ≤ jb := by rw [hP]; exact HE.out.pend
              have hPc := fun W (j : SJ7 W5 W cb sb mb hb ib (.pointer none) S5 c5 (mapV strV c5.o.row) q jb fu li le (.slice fa fl.length fc)) => cpending_any j.cold (now + M) (by omega)
              rw [← hP] at hPc
              have HPC := Lib.hid hPc
              have hlc : ∀ W, SJ7 W5 W cb sb mb hb ib (.pointer none) S5 c5 (mapV strV c5.o.row) q jb fu li le (.slice fa fl.length fc) → Calls Try.prog 51 #[.pointer (some ⟨cb, 0, none⟩)] W fun e w' => e = .returned (.int .i64 0) ∧ W = w' := fun W j => by have := lost_any j.cold; rw [HE.out.lost] at this; exact this
              have HLC := Lib.hid hlc
              have hlen5 : (mapV strV c5.o.row).length = c5.o.row.length := length_mapV _ _
              rw [hlen5] at z2
              have HLN := Lib.hid (fun W (j : SJ7 W5 W cb sb mb hb ib (.pointer none) S5 c5 (mapV strV c5.o.row) q jb fu li le (.slice fa fl.length fc)) => j.cold.st.len)
              have hPd : decide (jb < (P : Int)) = false := by rw [decide_eq_false_iff_not]; omega
              clear hP hPc hlc hlen5
              go_region_held3 (fun w' => w'.cell? ⟨ib, 1, none⟩ = some (.int .i64 jb) ∧ w'.cell? ⟨cb, 0, none⟩ = some (.pointer (some ⟨sb, 0, none⟩)) ∧ (∀ ty : TypeId, (Builtin.len_ #[49] ty #[.map (some hb)]).run Try.prog w' = .ok (.int .i64 c5.o.row.length) w') ∧ SJ7 W5 w' cb sb mb hb ib (.pointer none) S5 c5 (mapV strV c5.o.row) q jb fu li le (.slice fa fl.length fc))
                (first | exact sj7_all (by first | assumption | exact SJ7.of (by assumption)) | exact sj7_all (SJ7.drew (by first | assumption | exact SJ7.of (by assumption))))
                (first | (go_at_call 50; refine (HPC.out _ (by first | assumption | exact SJ7.of (by assumption))).mono ?_; rintro e w' ⟨rfl, k9⟩; have j9 := SJ7.still (by first | assumption | exact SJ7.of (by assumption)) k9) | (go_at_call 51; refine (HLC.out _ (by first | assumption | exact SJ7.of (by assumption))).mono ?_; rintro e w' ⟨rfl, rfl⟩) | (go_at_call 31; refine (HLN.out _ (by first | assumption | exact SJ7.of (by assumption))).mono ?_; rintro e w' ⟨rfl, rfl⟩))
              have j8 : SJ7 W5 w' cb sb mb hb ib (.pointer none) S5 c5 (mapV strV c5.o.row) q jb fu li le (.slice fa fl.length fc) := by first | assumption | exact SJ7.of (by assumption)
              have J8 := Lib.hid (JE.out.still j8.keep)
              clear z0 z1 z2
              go_wp2
              go_roundg (N - (i + 1))
              case measure => have := HG.out; omega
              case rel => exact ⟨i + 1, now + M, c5, S5, by omega, rfl, by go_num, rfl, by omega, by omega, HE.out, J8.out⟩
      · have HRQ := Lib.hid (creq_any JA.out.c7.cold HC.out.1 HC.out.2.1 HC.out.2.2.2 nm hnms (now + M) (by omega) V (by omega))
        obtain ⟨c5, hc5⟩ : ∃ c5, c5 = c.req name (now + M) V := ⟨_, rfl⟩
        have HC5 := Lib.hid hc5
        have HPU := Lib.hid (HI1.out.req HRn.out (nm := name) (wait := V))
        have HE := Lib.hid (show JI jb (i + 1) (now + M) c5 by rw [HC5.out]; exact HPU.out.1)
        have HROW := Lib.hid (show c5.o.row = c.o.row by rw [HC5.out]; exact HPU.out.2)
        clear hc5
        obtain ⟨xb, tb, hx⟩ : ∃ (x : ByteArray) (t : Bool), (((lk c.o.row name).map strV).getD (.string ⟨#[]⟩), ((lk c.o.row name).map strV).isSome) = (.string x, t) := by
          cases lk c.o.row name with
          | none => exact ⟨_, _, rfl⟩
          | some b => exact ⟨_, _, rfl⟩
        rw [(Prod.mk.inj hx).1, (Prod.mk.inj hx).2] at hlook
        clear hx
        go_wp2_with fail
        rw [← HBX.out]
        refine HRQ.out.mono ?_
        rintro e W5 ⟨rfl, p2⟩
        obtain ⟨S5, j2⟩ := JA.out.post p2
        rw [HNL.out, ← HC5.out, ← HROW.out] at j2
        have JE := Lib.hid j2
        clear p2 j2 hlook
        go_wp2_with fail
        all_goals
          as_aux_lemma =>
            have j0 : SJ7 W5 W5 cb sb mb hb ib (.pointer none) S5 c5 (mapV strV c5.o.row) q jb fu li le (.slice fa fl.length fc) := ⟨JE.out.c7.cold, JE.out.map, JE.out.box, Keep.refl _ _⟩
            obtain ⟨z0, z1, z2, -⟩ := j0.all
            obtain ⟨P, hP⟩ : ∃ P, P = c5.pend (now + M) := ⟨_, rfl⟩
            have HP := Lib.hid hP
            have hPj : (P : Int) ≤ jb := by rw [hP]; exact HE.out.pend
            have hPc := fun W (j : SJ7 W5 W cb sb mb hb ib (.pointer none) S5 c5 (mapV strV c5.o.row) q jb fu li le (.slice fa fl.length fc)) => cpending_any j.cold (now + M) (by omega)
            rw [← hP] at hPc
            have HPC := Lib.hid hPc
            have hlc : ∀ W, SJ7 W5 W cb sb mb hb ib (.pointer none) S5 c5 (mapV strV c5.o.row) q jb fu li le (.slice fa fl.length fc) → Calls Try.prog 51 #[.pointer (some ⟨cb, 0, none⟩)] W fun e w' => e = .returned (.int .i64 0) ∧ W = w' := fun W j => by have := lost_any j.cold; rw [HE.out.lost] at this; exact this
            have HLC := Lib.hid hlc
            have hlen5 : (mapV strV c5.o.row).length = c5.o.row.length := length_mapV _ _
            rw [hlen5] at z2
            have HLN := Lib.hid (fun W (j : SJ7 W5 W cb sb mb hb ib (.pointer none) S5 c5 (mapV strV c5.o.row) q jb fu li le (.slice fa fl.length fc)) => j.cold.st.len)
            have hPd : decide (jb < (P : Int)) = false := by rw [decide_eq_false_iff_not]; omega
            clear hP hPc hlc hlen5
            go_region_held3 (fun w' => w'.cell? ⟨ib, 1, none⟩ = some (.int .i64 jb) ∧ w'.cell? ⟨cb, 0, none⟩ = some (.pointer (some ⟨sb, 0, none⟩)) ∧ (∀ ty : TypeId, (Builtin.len_ #[49] ty #[.map (some hb)]).run Try.prog w' = .ok (.int .i64 c5.o.row.length) w') ∧ SJ7 W5 w' cb sb mb hb ib (.pointer none) S5 c5 (mapV strV c5.o.row) q jb fu li le (.slice fa fl.length fc))
              (first | exact sj7_all (by first | assumption | exact SJ7.of (by assumption)) | exact sj7_all (SJ7.drew (by first | assumption | exact SJ7.of (by assumption))))
              (first | (go_at_call 50; refine (HPC.out _ (by first | assumption | exact SJ7.of (by assumption))).mono ?_; rintro e w' ⟨rfl, k9⟩; have j9 := SJ7.still (by first | assumption | exact SJ7.of (by assumption)) k9) | (go_at_call 51; refine (HLC.out _ (by first | assumption | exact SJ7.of (by assumption))).mono ?_; rintro e w' ⟨rfl, rfl⟩) | (go_at_call 31; refine (HLN.out _ (by first | assumption | exact SJ7.of (by assumption))).mono ?_; rintro e w' ⟨rfl, rfl⟩))
            have j8 : SJ7 W5 w' cb sb mb hb ib (.pointer none) S5 c5 (mapV strV c5.o.row) q jb fu li le (.slice fa fl.length fc) := by first | assumption | exact SJ7.of (by assumption)
            have J8 := Lib.hid (JE.out.still j8.keep)
            clear z0 z1 z2
            go_wp2
            go_roundg (N - (i + 1))
            case measure => have := HG.out; omega
            case rel => exact ⟨i + 1, now + M, c5, S5, by omega, rfl, by go_num, rfl, by omega, by omega, HE.out, J8.out⟩
      · have HST := Lib.hid (cstate_any JA.out.c7.cold nm hnms (now + M) (by omega))
        obtain ⟨st, hst⟩ : ∃ k, k = c.state name (now + M) := ⟨_, rfl⟩
        obtain ⟨gc, hgc⟩ : ∃ k, k = c.getCode name (now + M) := ⟨_, rfl⟩
        have hcs := getCode_cases c name (now + M)
        rw [← hst, ← hgc] at hcs
        have HSE := Lib.hid hst; have HGC := Lib.hid hgc
        obtain ⟨c5, hc5⟩ : ∃ c5 : CS, c5 = { c with o := c.o.op } := ⟨_, rfl⟩
        have HC5 := Lib.hid hc5
        have HE := Lib.hid (show JI jb (i + 1) (now + M) c5 by rw [HC5.out]; exact HI1.out.op)
        have HROW := Lib.hid (show c5.o.row = c.o.row by rw [HC5.out]; rfl)
        clear hst hgc hc5
        obtain ⟨xb, tb, hx⟩ : ∃ (x : ByteArray) (t : Bool), (((lk c.o.row name).map strV).getD (.string ⟨#[]⟩), ((lk c.o.row name).map strV).isSome) = (.string x, t) := by
          cases lk c.o.row name with
          | none => exact ⟨_, _, rfl⟩
          | some b => exact ⟨_, _, rfl⟩
        rw [(Prod.mk.inj hx).1, (Prod.mk.inj hx).2] at hlook
        clear hx
        obtain ⟨S5, hS5⟩ : ∃ S5, S5 = S := ⟨_, rfl⟩
        have HS5 := Lib.hid hS5
        clear hS5
        rcases hcs with ⟨rfl, rfl, v0, hv0, hv1⟩ | ⟨rfl, hs2⟩ | ⟨hg0, hg32⟩
        · have HV0 := Lib.hid hv0; have HV1 := Lib.hid hv1
          clear hv0 hv1
          go_wp2_with fail
          rw [← HBX.out]
          refine HST.out.mono ?_
          rintro e W2 ⟨rfl, k2⟩
          rw [HNL.out, ← HSE.out]
          have b2 := k2.heap HBB.out id
          have J2 := Lib.hid (JA.out.still k2)
          have d1 : W2.cell? ⟨bxb, 1, none⟩ = some (.string nm) := by rw [cell_blk b2]; rfl
          have B2 := Lib.hid b2
          clear k2 b2 hlook
          go_wp2_with fail
          refine (cget_any J2.out.c7.cold HC.out.1 HC.out.2.1 nm hnms (now + M) (by omega)).mono ?_
          rintro e W5 h5
          have k5 := h5.choose_spec.2.2.1
          have b5 := k5.heap B2.out (hbn JA.out HBX.out J.out).1
          obtain ⟨ga, gn, gk, rfl, j5, hv5⟩ := J2.out.get h5
          rw [HNL.out, ← HGC.out]
          rw [HNL.out, HV1.out] at hv5
          have hconv := conv_str hv5
          have d3 : W5.cell? ⟨bxb, 1, none⟩ = some (.string nm) := by rw [cell_blk b5]; rfl
          have hlk2 := MapP.look Try.underlying9 Try.underlying49 j5.map nm hnms (zero_string _)
          rw [HNL.out, lk_mapV, HV0.out] at hlk2
          simp only [Option.map_some, Option.getD_some] at hlk2
          rw [← HC5.out, ← HS5.out, ← HROW.out] at j5
          have JE := Lib.hid j5
          simp only [strV] at hconv hlk2
          clear h5 k5 b5 j5 hv5 d1
          go_wp2_with fail
          clear hconv hlk2 d3
          all_goals
            as_aux_lemma =>
              have j0 : SJ7 W5 W5 cb sb mb hb ib (.pointer none) S5 c5 (mapV strV c5.o.row) q jb fu li le (.slice fa fl.length fc) := ⟨JE.out.c7.cold, JE.out.map, JE.out.box, Keep.refl _ _⟩
              obtain ⟨z0, z1, z2, -⟩ := j0.all
              obtain ⟨P, hP⟩ : ∃ P, P = c5.pend (now + M) := ⟨_, rfl⟩
              have HP := Lib.hid hP
              have hPj : (P : Int) ≤ jb := by rw [hP]; exact HE.out.pend
              have hPc := fun W (j : SJ7 W5 W cb sb mb hb ib (.pointer none) S5 c5 (mapV strV c5.o.row) q jb fu li le (.slice fa fl.length fc)) => cpending_any j.cold (now + M) (by omega)
              rw [← hP] at hPc
              have HPC := Lib.hid hPc
              have hlc : ∀ W, SJ7 W5 W cb sb mb hb ib (.pointer none) S5 c5 (mapV strV c5.o.row) q jb fu li le (.slice fa fl.length fc) → Calls Try.prog 51 #[.pointer (some ⟨cb, 0, none⟩)] W fun e w' => e = .returned (.int .i64 0) ∧ W = w' := fun W j => by have := lost_any j.cold; rw [HE.out.lost] at this; exact this
              have HLC := Lib.hid hlc
              have hlen5 : (mapV strV c5.o.row).length = c5.o.row.length := length_mapV _ _
              rw [hlen5] at z2
              have HLN := Lib.hid (fun W (j : SJ7 W5 W cb sb mb hb ib (.pointer none) S5 c5 (mapV strV c5.o.row) q jb fu li le (.slice fa fl.length fc)) => j.cold.st.len)
              have hPd : decide (jb < (P : Int)) = false := by rw [decide_eq_false_iff_not]; omega
              clear hP hPc hlc hlen5
              go_region_held3 (fun w' => w'.cell? ⟨ib, 1, none⟩ = some (.int .i64 jb) ∧ w'.cell? ⟨cb, 0, none⟩ = some (.pointer (some ⟨sb, 0, none⟩)) ∧ (∀ ty : TypeId, (Builtin.len_ #[49] ty #[.map (some hb)]).run Try.prog w' = .ok (.int .i64 c5.o.row.length) w') ∧ SJ7 W5 w' cb sb mb hb ib (.pointer none) S5 c5 (mapV strV c5.o.row) q jb fu li le (.slice fa fl.length fc))
                (first | exact sj7_all (by first | assumption | exact SJ7.of (by assumption)) | exact sj7_all (SJ7.drew (by first | assumption | exact SJ7.of (by assumption))))
                (first | (go_at_call 50; refine (HPC.out _ (by first | assumption | exact SJ7.of (by assumption))).mono ?_; rintro e w' ⟨rfl, k9⟩; have j9 := SJ7.still (by first | assumption | exact SJ7.of (by assumption)) k9) | (go_at_call 51; refine (HLC.out _ (by first | assumption | exact SJ7.of (by assumption))).mono ?_; rintro e w' ⟨rfl, rfl⟩) | (go_at_call 31; refine (HLN.out _ (by first | assumption | exact SJ7.of (by assumption))).mono ?_; rintro e w' ⟨rfl, rfl⟩))
              have j8 : SJ7 W5 w' cb sb mb hb ib (.pointer none) S5 c5 (mapV strV c5.o.row) q jb fu li le (.slice fa fl.length fc) := by first | assumption | exact SJ7.of (by assumption)
              have J8 := Lib.hid (JE.out.still j8.keep)
              clear z0 z1 z2
              go_wp2
              go_roundg (N - (i + 1))
              case measure => have := HG.out; omega
              case rel => exact ⟨i + 1, now + M, c5, S5, by omega, rfl, by go_num, rfl, by omega, by omega, HE.out, J8.out⟩
        · have hs2b : (st == 2) = false := by simpa using hs2
          clear hs2
          go_wp2_with fail
          rw [← HBX.out]
          refine HST.out.mono ?_
          rintro e W2 ⟨rfl, k2⟩
          rw [HNL.out, ← HSE.out]
          have b2 := k2.heap HBB.out id
          have J2 := Lib.hid (JA.out.still k2)
          have d1 : W2.cell? ⟨bxb, 1, none⟩ = some (.string nm) := by rw [cell_blk b2]; rfl
          clear k2 b2 hlook
          go_wp2_with fail
          refine (cget_any J2.out.c7.cold HC.out.1 HC.out.2.1 nm hnms (now + M) (by omega)).mono ?_
          rintro e W5 h5
          obtain ⟨ga, gn, gk, rfl, j5, hv5⟩ := J2.out.get h5
          rw [HNL.out, ← HGC.out]
          rw [← HC5.out, ← HS5.out, ← HROW.out] at j5
          have JE := Lib.hid j5
          clear h5 j5 hv5 d1
          go_wp2_with fail
          clear hs2b
          all_goals
            as_aux_lemma =>
              have j0 : SJ7 W5 W5 cb sb mb hb ib (.pointer none) S5 c5 (mapV strV c5.o.row) q jb fu li le (.slice fa fl.length fc) := ⟨JE.out.c7.cold, JE.out.map, JE.out.box, Keep.refl _ _⟩
              obtain ⟨z0, z1, z2, -⟩ := j0.all
              obtain ⟨P, hP⟩ : ∃ P, P = c5.pend (now + M) := ⟨_, rfl⟩
              have HP := Lib.hid hP
              have hPj : (P : Int) ≤ jb := by rw [hP]; exact HE.out.pend
              have hPc := fun W (j : SJ7 W5 W cb sb mb hb ib (.pointer none) S5 c5 (mapV strV c5.o.row) q jb fu li le (.slice fa fl.length fc)) => cpending_any j.cold (now + M) (by omega)
              rw [← hP] at hPc
              have HPC := Lib.hid hPc
              have hlc : ∀ W, SJ7 W5 W cb sb mb hb ib (.pointer none) S5 c5 (mapV strV c5.o.row) q jb fu li le (.slice fa fl.length fc) → Calls Try.prog 51 #[.pointer (some ⟨cb, 0, none⟩)] W fun e w' => e = .returned (.int .i64 0) ∧ W = w' := fun W j => by have := lost_any j.cold; rw [HE.out.lost] at this; exact this
              have HLC := Lib.hid hlc
              have hlen5 : (mapV strV c5.o.row).length = c5.o.row.length := length_mapV _ _
              rw [hlen5] at z2
              have HLN := Lib.hid (fun W (j : SJ7 W5 W cb sb mb hb ib (.pointer none) S5 c5 (mapV strV c5.o.row) q jb fu li le (.slice fa fl.length fc)) => j.cold.st.len)
              have hPd : decide (jb < (P : Int)) = false := by rw [decide_eq_false_iff_not]; omega
              clear hP hPc hlc hlen5
              go_region_held3 (fun w' => w'.cell? ⟨ib, 1, none⟩ = some (.int .i64 jb) ∧ w'.cell? ⟨cb, 0, none⟩ = some (.pointer (some ⟨sb, 0, none⟩)) ∧ (∀ ty : TypeId, (Builtin.len_ #[49] ty #[.map (some hb)]).run Try.prog w' = .ok (.int .i64 c5.o.row.length) w') ∧ SJ7 W5 w' cb sb mb hb ib (.pointer none) S5 c5 (mapV strV c5.o.row) q jb fu li le (.slice fa fl.length fc))
                (first | exact sj7_all (by first | assumption | exact SJ7.of (by assumption)) | exact sj7_all (SJ7.drew (by first | assumption | exact SJ7.of (by assumption))))
                (first | (go_at_call 50; refine (HPC.out _ (by first | assumption | exact SJ7.of (by assumption))).mono ?_; rintro e w' ⟨rfl, k9⟩; have j9 := SJ7.still (by first | assumption | exact SJ7.of (by assumption)) k9) | (go_at_call 51; refine (HLC.out _ (by first | assumption | exact SJ7.of (by assumption))).mono ?_; rintro e w' ⟨rfl, rfl⟩) | (go_at_call 31; refine (HLN.out _ (by first | assumption | exact SJ7.of (by assumption))).mono ?_; rintro e w' ⟨rfl, rfl⟩))
              have j8 : SJ7 W5 w' cb sb mb hb ib (.pointer none) S5 c5 (mapV strV c5.o.row) q jb fu li le (.slice fa fl.length fc) := by first | assumption | exact SJ7.of (by assumption)
              have J8 := Lib.hid (JE.out.still j8.keep)
              clear z0 z1 z2
              go_wp2
              go_roundg (N - (i + 1))
              case measure => have := HG.out; omega
              case rel => exact ⟨i + 1, now + M, c5, S5, by omega, rfl, by go_num, rfl, by omega, by omega, HE.out, J8.out⟩
        · have hg0b : (gc == 0) = false := by simpa using hg0
          have hg32b : (gc == 32) = false := by simpa using hg32
          clear hg0 hg32
          go_wp2_with fail
          rw [← HBX.out]
          refine HST.out.mono ?_
          rintro e W2 ⟨rfl, k2⟩
          rw [HNL.out, ← HSE.out]
          have b2 := k2.heap HBB.out id
          have J2 := Lib.hid (JA.out.still k2)
          have d1 : W2.cell? ⟨bxb, 1, none⟩ = some (.string nm) := by rw [cell_blk b2]; rfl
          clear k2 b2 hlook
          go_wp2_with fail
          refine (cget_any J2.out.c7.cold HC.out.1 HC.out.2.1 nm hnms (now + M) (by omega)).mono ?_
          rintro e W5 h5
          obtain ⟨ga, gn, gk, rfl, j5, hv5⟩ := J2.out.get h5
          rw [HNL.out, ← HGC.out]
          rw [← HC5.out, ← HS5.out, ← HROW.out] at j5
          have JE := Lib.hid j5
          clear h5 j5 hv5 d1
          go_wp2_with fail
          clear hg0b hg32b
          all_goals
            as_aux_lemma =>
              have j0 : SJ7 W5 W5 cb sb mb hb ib (.pointer none) S5 c5 (mapV strV c5.o.row) q jb fu li le (.slice fa fl.length fc) := ⟨JE.out.c7.cold, JE.out.map, JE.out.box, Keep.refl _ _⟩
              obtain ⟨z0, z1, z2, -⟩ := j0.all
              obtain ⟨P, hP⟩ : ∃ P, P = c5.pend (now + M) := ⟨_, rfl⟩
              have HP := Lib.hid hP
              have hPj : (P : Int) ≤ jb := by rw [hP]; exact HE.out.pend
              have hPc := fun W (j : SJ7 W5 W cb sb mb hb ib (.pointer none) S5 c5 (mapV strV c5.o.row) q jb fu li le (.slice fa fl.length fc)) => cpending_any j.cold (now + M) (by omega)
              rw [← hP] at hPc
              have HPC := Lib.hid hPc
              have hlc : ∀ W, SJ7 W5 W cb sb mb hb ib (.pointer none) S5 c5 (mapV strV c5.o.row) q jb fu li le (.slice fa fl.length fc) → Calls Try.prog 51 #[.pointer (some ⟨cb, 0, none⟩)] W fun e w' => e = .returned (.int .i64 0) ∧ W = w' := fun W j => by have := lost_any j.cold; rw [HE.out.lost] at this; exact this
              have HLC := Lib.hid hlc
              have hlen5 : (mapV strV c5.o.row).length = c5.o.row.length := length_mapV _ _
              rw [hlen5] at z2
              have HLN := Lib.hid (fun W (j : SJ7 W5 W cb sb mb hb ib (.pointer none) S5 c5 (mapV strV c5.o.row) q jb fu li le (.slice fa fl.length fc)) => j.cold.st.len)
              have hPd : decide (jb < (P : Int)) = false := by rw [decide_eq_false_iff_not]; omega
              clear hP hPc hlc hlen5
              go_region_held3 (fun w' => w'.cell? ⟨ib, 1, none⟩ = some (.int .i64 jb) ∧ w'.cell? ⟨cb, 0, none⟩ = some (.pointer (some ⟨sb, 0, none⟩)) ∧ (∀ ty : TypeId, (Builtin.len_ #[49] ty #[.map (some hb)]).run Try.prog w' = .ok (.int .i64 c5.o.row.length) w') ∧ SJ7 W5 w' cb sb mb hb ib (.pointer none) S5 c5 (mapV strV c5.o.row) q jb fu li le (.slice fa fl.length fc))
                (first | exact sj7_all (by first | assumption | exact SJ7.of (by assumption)) | exact sj7_all (SJ7.drew (by first | assumption | exact SJ7.of (by assumption))))
                (first | (go_at_call 50; refine (HPC.out _ (by first | assumption | exact SJ7.of (by assumption))).mono ?_; rintro e w' ⟨rfl, k9⟩; have j9 := SJ7.still (by first | assumption | exact SJ7.of (by assumption)) k9) | (go_at_call 51; refine (HLC.out _ (by first | assumption | exact SJ7.of (by assumption))).mono ?_; rintro e w' ⟨rfl, rfl⟩) | (go_at_call 31; refine (HLN.out _ (by first | assumption | exact SJ7.of (by assumption))).mono ?_; rintro e w' ⟨rfl, rfl⟩))
              have j8 : SJ7 W5 w' cb sb mb hb ib (.pointer none) S5 c5 (mapV strV c5.o.row) q jb fu li le (.slice fa fl.length fc) := by first | assumption | exact SJ7.of (by assumption)
              have J8 := Lib.hid (JE.out.still j8.keep)
              clear z0 z1 z2
              go_wp2
              go_roundg (N - (i + 1))
              case measure => have := HG.out; omega
              case rel => exact ⟨i + 1, now + M, c5, S5, by omega, rfl, by go_num, rfl, by omega, by omega, HE.out, J8.out⟩
      · have HFA := Lib.hid (cfail_any JA.out.c7.cold HC.out.2.2.2 nm hnms (now + M) (by omega))
        obtain ⟨c5, hc5⟩ : ∃ c5, c5 = c.fail name (now + M) := ⟨_, rfl⟩
        have HC5 := Lib.hid hc5
        have HPU := Lib.hid (HI1.out.fail HRn.out (nm := name))
        have HE := Lib.hid (show JI jb (i + 1) (now + M) c5 by rw [HC5.out]; exact HPU.out.1)
        have HROW := Lib.hid (show c5.o.row = c.o.row by rw [HC5.out]; exact HPU.out.2)
        clear hc5
        obtain ⟨xb, tb, hx⟩ : ∃ (x : ByteArray) (t : Bool), (((lk c.o.row name).map strV).getD (.string ⟨#[]⟩), ((lk c.o.row name).map strV).isSome) = (.string x, t) := by
          cases lk c.o.row name with
          | none => exact ⟨_, _, rfl⟩
          | some b => exact ⟨_, _, rfl⟩
        rw [(Prod.mk.inj hx).1, (Prod.mk.inj hx).2] at hlook
        clear hx
        obtain ⟨S5, hS5⟩ : ∃ S5, S5 = S := ⟨_, rfl⟩
        have HS5 := Lib.hid hS5
        clear hS5
        go_wp2_with fail
        rw [← HBX.out]
        refine HFA.out.mono ?_
        rintro e W5 ⟨rfl, j2, k2⟩
        have j2 := JA.out.same j2 k2 (fun _ e => .inr (.inr e))
        rw [HNL.out, ← HC5.out, ← HS5.out, ← HROW.out] at j2
        have JE := Lib.hid j2
        clear k2 j2 hlook
        go_wp2_with fail
        all_goals
          as_aux_lemma =>
            have j0 : SJ7 W5 W5 cb sb mb hb ib (.pointer none) S5 c5 (mapV strV c5.o.row) q jb fu li le (.slice fa fl.length fc) := ⟨JE.out.c7.cold, JE.out.map, JE.out.box, Keep.refl _ _⟩
            obtain ⟨z0, z1, z2, -⟩ := j0.all
            obtain ⟨P, hP⟩ : ∃ P, P = c5.pend (now + M) := ⟨_, rfl⟩
            have HP := Lib.hid hP
            have hPj : (P : Int) ≤ jb := by rw [hP]; exact HE.out.pend
            have hPc := fun W (j : SJ7 W5 W cb sb mb hb ib (.pointer none) S5 c5 (mapV strV c5.o.row) q jb fu li le (.slice fa fl.length fc)) => cpending_any j.cold (now + M) (by omega)
            rw [← hP] at hPc
            have HPC := Lib.hid hPc
            have hlc : ∀ W, SJ7 W5 W cb sb mb hb ib (.pointer none) S5 c5 (mapV strV c5.o.row) q jb fu li le (.slice fa fl.length fc) → Calls Try.prog 51 #[.pointer (some ⟨cb, 0, none⟩)] W fun e w' => e = .returned (.int .i64 0) ∧ W = w' := fun W j => by have := lost_any j.cold; rw [HE.out.lost] at this; exact this
            have HLC := Lib.hid hlc
            have hlen5 : (mapV strV c5.o.row).length = c5.o.row.length := length_mapV _ _
            rw [hlen5] at z2
            have HLN := Lib.hid (fun W (j : SJ7 W5 W cb sb mb hb ib (.pointer none) S5 c5 (mapV strV c5.o.row) q jb fu li le (.slice fa fl.length fc)) => j.cold.st.len)
            have hPd : decide (jb < (P : Int)) = false := by rw [decide_eq_false_iff_not]; omega
            clear hP hPc hlc hlen5
            go_region_held3 (fun w' => w'.cell? ⟨ib, 1, none⟩ = some (.int .i64 jb) ∧ w'.cell? ⟨cb, 0, none⟩ = some (.pointer (some ⟨sb, 0, none⟩)) ∧ (∀ ty : TypeId, (Builtin.len_ #[49] ty #[.map (some hb)]).run Try.prog w' = .ok (.int .i64 c5.o.row.length) w') ∧ SJ7 W5 w' cb sb mb hb ib (.pointer none) S5 c5 (mapV strV c5.o.row) q jb fu li le (.slice fa fl.length fc))
              (first | exact sj7_all (by first | assumption | exact SJ7.of (by assumption)) | exact sj7_all (SJ7.drew (by first | assumption | exact SJ7.of (by assumption))))
              (first | (go_at_call 50; refine (HPC.out _ (by first | assumption | exact SJ7.of (by assumption))).mono ?_; rintro e w' ⟨rfl, k9⟩; have j9 := SJ7.still (by first | assumption | exact SJ7.of (by assumption)) k9) | (go_at_call 51; refine (HLC.out _ (by first | assumption | exact SJ7.of (by assumption))).mono ?_; rintro e w' ⟨rfl, rfl⟩) | (go_at_call 31; refine (HLN.out _ (by first | assumption | exact SJ7.of (by assumption))).mono ?_; rintro e w' ⟨rfl, rfl⟩))
            have j8 : SJ7 W5 w' cb sb mb hb ib (.pointer none) S5 c5 (mapV strV c5.o.row) q jb fu li le (.slice fa fl.length fc) := by first | assumption | exact SJ7.of (by assumption)
            have J8 := Lib.hid (JE.out.still j8.keep)
            clear z0 z1 z2
            go_wp2
            go_roundg (N - (i + 1))
            case measure => have := HG.out; omega
            case rel => exact ⟨i + 1, now + M, c5, S5, by omega, rfl, by go_num, rfl, by omega, by omega, HE.out, J8.out⟩
      · have e0 : (kind == 0) = false := by simpa using n0
        have e1 : (kind == 1) = false := by simpa using n1'
        have e2 : (kind == 2) = false := by simpa using n2
        have e3 : (kind == 3) = false := by simpa using n3
        have e4 : (kind == 4) = false := by simpa using n4
        have e5 : (kind == 5) = false := by simpa using n5
        clear n0 n1' n2 n3 n4 n5
        obtain ⟨xb, tb, hx⟩ : ∃ (x : ByteArray) (t : Bool), (((lk c.o.row name).map strV).getD (.string ⟨#[]⟩), ((lk c.o.row name).map strV).isSome) = (.string x, t) := by
          cases lk c.o.row name with
          | none => exact ⟨_, _, rfl⟩
          | some b => exact ⟨_, _, rfl⟩
        rw [(Prod.mk.inj hx).1, (Prod.mk.inj hx).2] at hlook
        clear hx
        go_wp2_with fail
        have HE := Lib.hid HI1.out.idle
        obtain ⟨c5, hc5⟩ : ∃ c5, c5 = c := ⟨_, rfl⟩
        obtain ⟨S5, hS5⟩ : ∃ S5, S5 = S := ⟨_, rfl⟩
        have JE := JA
        rw [← hc5] at HE JE; rw [← hS5] at JE
        obtain ⟨W5, hW5⟩ : ∃ W5, W5 = wr.alloc (.cells #[.int .i64 kind, .string nm, .slice ba bs.length bc, .int .i64 onow, .int .i64 wait, .bool force] 78) := ⟨_, rfl⟩
        rw [← hW5] at JE ⊢
        clear hc5 hS5 hW5 hlook
        all_goals
          as_aux_lemma =>
            have j0 : SJ7 W5 W5 cb sb mb hb ib (.pointer none) S5 c5 (mapV strV c5.o.row) q jb fu li le (.slice fa fl.length fc) := ⟨JE.out.c7.cold, JE.out.map, JE.out.box, Keep.refl _ _⟩
            obtain ⟨z0, z1, z2, -⟩ := j0.all
            obtain ⟨P, hP⟩ : ∃ P, P = c5.pend (now + M) := ⟨_, rfl⟩
            have HP := Lib.hid hP
            have hPj : (P : Int) ≤ jb := by rw [hP]; exact HE.out.pend
            have hPc := fun W (j : SJ7 W5 W cb sb mb hb ib (.pointer none) S5 c5 (mapV strV c5.o.row) q jb fu li le (.slice fa fl.length fc)) => cpending_any j.cold (now + M) (by omega)
            rw [← hP] at hPc
            have HPC := Lib.hid hPc
            have hlc : ∀ W, SJ7 W5 W cb sb mb hb ib (.pointer none) S5 c5 (mapV strV c5.o.row) q jb fu li le (.slice fa fl.length fc) → Calls Try.prog 51 #[.pointer (some ⟨cb, 0, none⟩)] W fun e w' => e = .returned (.int .i64 0) ∧ W = w' := fun W j => by have := lost_any j.cold; rw [HE.out.lost] at this; exact this
            have HLC := Lib.hid hlc
            have hlen5 : (mapV strV c5.o.row).length = c5.o.row.length := length_mapV _ _
            rw [hlen5] at z2
            have HLN := Lib.hid (fun W (j : SJ7 W5 W cb sb mb hb ib (.pointer none) S5 c5 (mapV strV c5.o.row) q jb fu li le (.slice fa fl.length fc)) => j.cold.st.len)
            have hPd : decide (jb < (P : Int)) = false := by rw [decide_eq_false_iff_not]; omega
            clear hP hPc hlc hlen5
            go_region_held3 (fun w' => w'.cell? ⟨ib, 1, none⟩ = some (.int .i64 jb) ∧ w'.cell? ⟨cb, 0, none⟩ = some (.pointer (some ⟨sb, 0, none⟩)) ∧ (∀ ty : TypeId, (Builtin.len_ #[49] ty #[.map (some hb)]).run Try.prog w' = .ok (.int .i64 c5.o.row.length) w') ∧ SJ7 W5 w' cb sb mb hb ib (.pointer none) S5 c5 (mapV strV c5.o.row) q jb fu li le (.slice fa fl.length fc))
              (first | exact sj7_all (by first | assumption | exact SJ7.of (by assumption)) | exact sj7_all (SJ7.drew (by first | assumption | exact SJ7.of (by assumption))))
              (first | (go_at_call 50; refine (HPC.out _ (by first | assumption | exact SJ7.of (by assumption))).mono ?_; rintro e w' ⟨rfl, k9⟩; have j9 := SJ7.still (by first | assumption | exact SJ7.of (by assumption)) k9) | (go_at_call 51; refine (HLC.out _ (by first | assumption | exact SJ7.of (by assumption))).mono ?_; rintro e w' ⟨rfl, rfl⟩) | (go_at_call 31; refine (HLN.out _ (by first | assumption | exact SJ7.of (by assumption))).mono ?_; rintro e w' ⟨rfl, rfl⟩))
            have j8 : SJ7 W5 w' cb sb mb hb ib (.pointer none) S5 c5 (mapV strV c5.o.row) q jb fu li le (.slice fa fl.length fc) := by first | assumption | exact SJ7.of (by assumption)
            have J8 := Lib.hid (JE.out.still j8.keep)
            clear z0 z1 z2
            go_wp2
            go_roundg (N - (i + 1))
            case measure => have := HG.out; omega
            case rel => exact ⟨i + 1, now + M, c5, S5, by omega, rfl, by go_num, rfl, by omega, by omega, HE.out, J8.out⟩
    · have HK := Lib.hid J.out.c7.keep
      go_wp2
      go_ret
      exact ⟨rfl, HK.out⟩
end Go.Proofs.Ytgnigkghkldcfaa
