/-
  coldstorelaw06.ObjectRooms: true, of all quotas, fuses, faults and steps.
-/
import Derived.Test.YtgnigkghkldcfaaRooms2
import Derived.Test.YtgnigkghkldcfaaSameL
import Derived.Deep.OwnRows
namespace Go.Proofs.Ytgnigkghkldcfaa
open Go.RowKit Go.Proofs Go.Lib

set_option maxRecDepth 100000 in
set_option maxHeartbeats 4000000 in
theorem rooms_short {w : World} {v : Value} {L : List (Op6 × Value)} (hO : OpsAt w v L) (hf : fewB (L.map (·.1)) = true) (quota fuse : Int) (hq : 0 ≤ quota ∧ quota ≤ 9223372036854775807) (hfu : -9223372036854775808 ≤ fuse ∧ fuse ≤ 9223372036854775807)
    {fv : Value} {fl : List Bool} (hfl : Sl w 1 fv fl.length (fl.map .bool)) (hfl60 : fl.length ≤ 60) :
    Calls Try.prog 4 #[.int .i64 quota, .int .i64 fuse, fv, v] w fun e w' => e = .returned (.bool true) ∧ Keep (fun _ => False) w w' := by
  obtain ⟨va, vc, rfl⟩ : ∃ p k, v = .slice p L.length k := let ⟨_, p, k, e, _⟩ := hO.row; ⟨p, k, e⟩
  obtain ⟨fa, fc, rfl⟩ : ∃ p k, fv = .slice p fl.length k := let ⟨_, p, k, e, _⟩ := hfl; ⟨p, k, e⟩
  have HO := Lib.hid hO; have HFL := Lib.hid hfl
  have HF := Lib.hid hf; clear hf hO hfl
  have hq0 : ¬ quota < 0 := by omega
  have hfl' : (fl.length : Int) ≤ 60 := by omega
  have hmk := run_makeMap_all 49
  obtain ⟨hq1, hq2⟩ := hq
  obtain ⟨hf1, hf2⟩ := hfu
  go_enter Try.func4, Try.ntmps4
  go_wp2_with fail
  refine (alive_any w).mono ?_
  rintro e w1 ⟨rfl, k1⟩
  go_wp2_with fail
  refine (few_any (HO.out.keep k1 (fun _ _ e => e))).mono ?_
  rintro e w2 ⟨rfl, k2⟩
  rw [HF.out]
  go_wp2_with fail
  refine (new_any quota _ hq1 hq2).mono ?_
  rintro e w3 ⟨sb, rfl, hs3, k3⟩
  have k13 := (k1.trans k2).trans k3
  have ka := (Keep.refl (fun _ => False) w3).alloc (.cells #[.pointer (some ⟨sb, 0, none⟩)] 26)
  have hs4 := hs3.keep0 ka
  have hb4 := alloc_new w3 (.cells #[.pointer (some ⟨sb, 0, none⟩)] 26)
  have k14 := k13.trans ka
  have hz4 : (w3.alloc (.cells #[.pointer (some ⟨sb, 0, none⟩)] 26)).heap.size = w3.heap.size + 1 := by simp
  obtain ⟨w4, hw4⟩ : ∃ w4, w4 = w3.alloc (.cells #[.pointer (some ⟨sb, 0, none⟩)] 26) := ⟨_, rfl⟩
  rw [← hw4] at hs4 hb4 k14 hz4
  have HW4 := Lib.hid hw4
  have hS3 : ∀ x, (w2.heap.size ≤ x ∧ x < w3.heap.size) → w.heap.size ≤ x := fun x e => by have := (k1.trans k2).size; omega
  obtain ⟨S3, eS3⟩ : ∃ S : Nat → Prop, S = fun b => w2.heap.size ≤ b ∧ b < w3.heap.size := ⟨_, rfl⟩
  have hps3 : ¬ S3 w3.heap.size := by rw [eS3]; intro e; omega
  have hlow3 : ∀ x, S3 x → w.heap.size ≤ x := by rw [eS3]; exact hS3
  rw [← eS3] at hs4
  have hpp : w.heap.size ≤ w3.heap.size := k13.size
  obtain ⟨ps, hps⟩ : ∃ ps, ps = w3.heap.size := ⟨_, rfl⟩
  rw [← hps] at hb4 hps3 hpp hz4
  have HPS := Lib.hid hps
  clear hs3 ka hw4 eS3 hS3 k1 k2 k3 k13 hps
  go_wp2_with fail
  rw [← HW4.out, ← HPS.out]
  refine (newFuse_any fuse _ hf1 hf2).mono ?_
  rintro e w5 ⟨rfl, hF5, k5⟩
  have hs5 := hs4.keep0 k5
  have hb5 := k5.heap hb4 id
  have cb5 := cell_blk hb5 0
  simp at cb5
  have hFL5 : Sl w5 1 (.slice fa fl.length fc) fl.length (fl.map .bool) := Sl.keep HFL.out (k14.trans k5) (fun _ _ _ e => e)
  have HB5 := Lib.hid hb5
  have k15 := k14.trans k5
  have hfb : ¬ S3 w4.heap.size := fun e => by have := hs4.lt _ e; omega
  have hfp : w4.heap.size ≠ ps := by omega
  have hfw : w.heap.size ≤ w4.heap.size := k14.size
  obtain ⟨fb, hfbe⟩ : ∃ fb, fb = w4.heap.size := ⟨_, rfl⟩
  rw [← hfbe] at hF5 hfb hfp hfw ⊢
  clear hb5 hb4 hs4 k14 k5 hz4 hfbe
  go_wp2_with fail
  refine (arm_any hs5 (.pointer (some ⟨fb, 0, none⟩)) _ (.inr ⟨_, rfl, hF5⟩) _ fl hFL5 (by omega)).mono ?_
  rintro e w6 ⟨S6, rfl, hs6, k6, hg6⟩
  have hsb : S3 sb := hs5.self
  have hb6 := k6.heap HB5.out (fun e => hps3 (by rw [e]; exact hsb))
  have hsz6 := hs6.lt
  have hw6 : w.heap.size ≤ w6.heap.size := (k15.trans' k6 (fun _ _ e => e) (fun k hk e => by have := hlow3 sb hsb; omega)).size
  have J : RI w sb w6.heap.size ps (.pointer (some ⟨fb, 0, none⟩)) S6 ((OS.new quota).arm (max fuse (-1)) fl) (mapV strV []) (w6.alloc (.map #[] 0)) := by
    have ka : Keep (fun _ => False) w6 (w6.alloc (.map #[] 0)) := (Keep.refl _ _).alloc _
    refine ⟨hs6.keep0 ka, MapP.made w6, fun e => by have := hsz6 _ e; omega, hw6, ka.heap hb6 id, fun e => ?_, hpp, fun x e => ?_, (k15.trans' k6 (fun _ _ e => e) (fun k hk e => by have := hlow3 sb hsb; omega)).trans ka⟩
    · rcases hg6 _ e with h | h | h
      · exact hps3 h
      · simp [vblk] at h; exact hfp h
      · have := lt_blk HB5.out; omega
    · rcases hg6 _ e with h | h | h
      · exact hlow3 x h
      · simp [vblk] at h; omega
      · have := k15.size; omega
  obtain ⟨hb, hhb⟩ : ∃ hb, hb = w6.heap.size := ⟨_, rfl⟩
  obtain ⟨s6, es6⟩ : ∃ s, s = (OS.new quota).arm (max fuse (-1)) fl := ⟨_, rfl⟩
  have hq6 : s6.quota = quota := by rw [es6]; rfl
  have ho6 : s6.ops = 0 := by rw [es6]; rfl
  have hr6 : s6.row = [] := by rw [es6]; rfl
  rw [← hhb, ← es6] at J
  have HHB := Lib.hid hhb
  have HQ6 := Lib.hid hq6; have HO6 := Lib.hid ho6; have HR6 := Lib.hid hr6
  clear hs5 cb5 hFL5 HB5 k15 hfw hfp hfb hF5 hs6 k6 hg6 hsb hb6 hsz6 hw6 es6 hq6 ho6 hr6 hhb hps3 hlow3
  obtain ⟨N, hN⟩ : ∃ N : Nat, N = L.length := ⟨_, rfl⟩
  have HN := Lib.hid hN
  have hN60 : N ≤ 60 := by
    have := HF.out
    unfold fewB at this
    simp at this
    omega
  rw [← hN]
  clear hN
  have HPP := Lib.hid hpp; clear hpp
  have hmf : ∀ (fn : Fn) (first cap : Array Value) (w : World), (Instr.makeFunc fn first cap).run Try.prog w = .ok (.func fn first cap) w := fun _ _ _ _ => rfl
  go_wp2
  rw [← HHB.out]
  clear hmk
  go_loopg [49] N (fun g v49 wr => ∃ (i : Nat) (s : OS) (S : Nat → Prop), i ≤ N ∧ g = N - i ∧ v49 = .int .i64 i ∧ RI w sb hb ps (.pointer (some ⟨fb, 0, none⟩)) S s (mapV strV s.row) wr ∧ s.quota = quota ∧ s.ops ≤ i)
  case atStart => exact ⟨0, s6, S6, Nat.zero_le _, rfl, rfl, by rw [HR6.out]; exact J, HQ6.out, by rw [HO6.out]; decide⟩
  case round =>
    obtain ⟨i, s, S, hi, hg, rfl, j, hqs, hos⟩ := hrel
    clear J
    by_cases hlt : i < N
    · obtain ⟨o, ho⟩ : ∃ o, L[i]? = some o := ⟨_, List.getElem?_eq_getElem (by rw [← HN.out]; exact hlt)⟩
      have hOr := HO.out.keep j.keep (fun _ _ e => e)
      obtain ⟨vb, vo, vc', ev, v1, v2⟩ := Sl.base HO.out.row (by rw [← HN.out]; omega)
      cases ev
      obtain ⟨c0, c1, c2⟩ := hOr.cells ho
      have hpb := hOr.bytes o (List.mem_of_getElem? ho)
      have hpb0 := HO.out.bytes o (List.mem_of_getElem? ho)
      have hps' : shortOp o.1 = true := by
        have := HF.out
        unfold fewB at this
        rw [Bool.and_eq_true] at this
        exact List.all_eq_true.1 this.1 _ (List.mem_map.2 ⟨_, List.mem_of_getElem? ho, rfl⟩)
      obtain ⟨⟨kind, name, bs⟩, bv⟩ := o
      obtain ⟨ba, bc, rfl⟩ : ∃ a c, bv = .slice a bs.length c := let ⟨_, a, c, e, _⟩ := hpb; ⟨a, c, e⟩
      have hbw : ∀ x, 0 < bs.length → vblk (.slice ba bs.length bc) = some x → x < w.heap.size := fun x hp e => Sl.lt hpb0 (by decide) hp e
      simp only [strV] at c1
      unfold shortOp at hps'
      simp at hps'
      rw [← HN.out] at v1
      unfold maxLen at v2
      have HG := Lib.hid hg; have HBW := Lib.hid hbw
      have ka := ((Keep.refl (fun _ => False) wr).alloc (.cells #[.int .i64 kind, .string ⟨name.toArray⟩, .slice ba bs.length bc] 38)).alloc (.cells #[.int .i64 41] 27)
      have j1 := j.still ka
      have hb1 : RBox wr.heap.size ps (wr.heap.size + 1) sb ⟨kind, name, bs⟩ (.slice ba bs.length bc) ((wr.alloc (.cells #[.int .i64 kind, .string ⟨name.toArray⟩, .slice ba bs.length bc] 38)).alloc (.cells #[.int .i64 41] 27)) := by
        refine ⟨alloc_blk (alloc_new _ _) _, j1.box, ?_, Sl.keep hpb ka (fun _ _ _ e => e)⟩
        have := alloc_new (wr.alloc (.cells #[.int .i64 kind, .string ⟨name.toArray⟩, .slice ba bs.length bc] 38)) (.cells #[.int .i64 41] 27)
        rw [World.size_alloc] at this
        exact this
      have hlow : w.heap.size ≤ wr.heap.size := j.keep.size
      have hSlt := j.st.lt
      have HC := rooms_catch j1 hb1 hps'.1 hps'.2 (by omega) (fun e => by have := hSlt _ e; omega) (fun e => by have := hSlt _ e; omega) (by omega) (by omega) hbw
      have hszn : (⟨name.toArray⟩ : ByteArray).size ≤ maxLen := by unfold maxLen; simp [ByteArray.size]; omega
      have hmany := j.st.ok.many
      have HSR := Lib.hid hmany
      clear hg hOr ho j hps' hpb hpb0 hbw hb1 j1 ka hSlt hmany
      go_wp2_with fail
      refine HC.mono ?_
      rintro e W2 ⟨yes, c, S2, s2, rfl, j2, hbo, hbe, hbb, hr1, hr2, hr3, hr4⟩
      have HQ2 := Lib.hid (hr1.trans hqs)
      have cbe := cell_blk hbe 0
      have cb1 := cell_blk hbo 1
      have cb0 := cell_blk hbo 0
      have cb2 := cell_blk hbo 2
      simp at cbe cb1 cb0 cb2
      by_cases hc : c = 0
      · subst hc
        have hrow := hr3 rfl
        clear hr4 hr3
        obtain ⟨W3, hdel, hm3, hk3⟩ := MapP.drop Try.underlying9 Try.underlying49 j2.map ⟨name.toArray⟩ hszn 0
        have j3 := j2.put hm3 hk3
        rw [delK_mapV] at j3
        by_cases hk : kind = 3
        · subst hk
          have e3 : delK (⟨name.toArray⟩ : ByteArray).data.toList s.row = s2.row := by rw [hrow]; rfl
          rw [e3] at j3
          have cb0' := cell_blk (hk3.heap hbo (fun e => MapP.ne j2.map hbo e.symm)) 0
          simp at cb0'
          clear e3 hrow hm3 j2 hbo hbe hbb
          obtain ⟨Z, hZ⟩ : ∃ Z : Nat, Z = sizeR s2.row := ⟨_, rfl⟩
          have hsz : (Z : Int) ≤ quota := by have := j3.st.ok.size; rw [hZ]; rw [hr1, hqs] at this; exact this
          have hsize := j3.st.size
          have hlen := j3.st.len
          rw [← hZ] at hsize
          obtain ⟨M, hM⟩ : ∃ M : Nat, M = s2.row.length := ⟨_, rfl⟩
          rw [← hM] at hlen
          have hlenm : ∀ ty : TypeId, (Builtin.len_ #[49] ty #[.map (some hb)]).run Try.prog W3 = .ok (.int .i64 M) W3 := fun ty => by
            have := MapP.len (P := Try.prog) Try.underlying49 j3.map ty
            rw [length_mapV, ← hM] at this
            exact this
          have cbs := cell_blk j3.box 0
          simp at cbs
          have HJ := Lib.hid j3; have HSZ := Lib.hid hsize; have HLN := Lib.hid hlen; have HR2 := Lib.hid hr2
          clear j3 hsize hlen hZ hM hr1 hr2
          go_wp2_with fail
          refine HSZ.out.mono ?_
          rintro e W4 ⟨rfl, rfl⟩
          go_wp2_with fail
          refine HLN.out.mono ?_
          rintro e W4 ⟨rfl, rfl⟩
          go_wp2
          go_roundg (N - (i + 1))
          case measure => have := HG.out; omega
          case rel => exact ⟨i + 1, s2, S2, by omega, rfl, by go_num, HJ.out, HQ2.out, by have := HR2.out; push_cast; omega⟩
        · have hk' : (kind == 3) = false := by simpa using hk
          have e3 : delK (⟨name.toArray⟩ : ByteArray).data.toList s.row = delK name s.row := rfl
          rw [e3] at j3
          have hbo3 := hk3.heap hbo (fun e => MapP.ne j2.map hbo e.symm)
          have cb0' := cell_blk hbo3 0
          have cb1' := cell_blk hbo3 1
          have cb2' := cell_blk hbo3 2
          simp at cb0' cb1' cb2'
          have hbb3 : BytesAt W3 (.slice ba bs.length bc) bs := Sl.keep hbb hk3 (fun x hp e h => by have := HBW.out x hp e; have := j2.hi; omega)
          obtain ⟨W4, hupd, hm4, hk4⟩ := MapP.update Try.underlying9 Try.underlying49 j3.map ⟨name.toArray⟩ hszn (by
            rw [length_mapV]
            have := delK_le name s.row
            have := HSR.out
            unfold maxLen; omega) (strV bs)
          have j4 := j3.put hm4 hk4
          have hconv := conv_str hbb3
          have em : putK name (strV bs) (mapV strV (delK name s.row)) = mapV strV s2.row := by
            rw [putK_mapV, hrow, if_neg hk]
            congr 1
            unfold putK
            rw [delK_none (lk_delK_same name s.row)]
          change RI w sb hb ps _ S2 s2 (putK name (strV bs) (mapV strV (delK name s.row))) W4 at j4
          rw [em] at j4
          clear em hrow hm4 hk4 hm3 hk3 j3 j2 hbo hbo3 hbe hbb hbb3 e3 hk
          obtain ⟨Z, hZ⟩ : ∃ Z : Nat, Z = sizeR s2.row := ⟨_, rfl⟩
          have hsz : (Z : Int) ≤ quota := by have := j4.st.ok.size; rw [hZ]; rw [hr1, hqs] at this; exact this
          have hsize := j4.st.size
          have hlen := j4.st.len
          rw [← hZ] at hsize
          obtain ⟨M, hM⟩ : ∃ M : Nat, M = s2.row.length := ⟨_, rfl⟩
          rw [← hM] at hlen
          have hlenm : ∀ ty : TypeId, (Builtin.len_ #[49] ty #[.map (some hb)]).run Try.prog W4 = .ok (.int .i64 M) W4 := fun ty => by
            have := MapP.len (P := Try.prog) Try.underlying49 j4.map ty
            rw [length_mapV, ← hM] at this
            exact this
          have cbs := cell_blk j4.box 0
          simp at cbs
          have HJ := Lib.hid j4; have HSZ := Lib.hid hsize; have HLN := Lib.hid hlen; have HR2 := Lib.hid hr2
          clear j4 hsize hlen hZ hM hr1 hr2
          go_wp2_with fail
          refine HSZ.out.mono ?_
          rintro e W4 ⟨rfl, rfl⟩
          go_wp2_with fail
          refine HLN.out.mono ?_
          rintro e W4 ⟨rfl, rfl⟩
          go_wp2
          go_roundg (N - (i + 1))
          case measure => have := HG.out; omega
          case rel => exact ⟨i + 1, s2, S2, by omega, rfl, by go_num, HJ.out, HQ2.out, by have := HR2.out; push_cast; omega⟩
      · have h0' : (c == 0) = false := by simpa using hc
        have hrow := hr4 hc
        rw [← hrow] at j2
        clear hr4 hr3 hrow hbo hbb
        obtain ⟨Z, hZ⟩ : ∃ Z : Nat, Z = sizeR s2.row := ⟨_, rfl⟩
        have hsz : (Z : Int) ≤ quota := by have := j2.st.ok.size; rw [hZ]; rw [hr1, hqs] at this; exact this
        have hsize := j2.st.size
        have hlen := j2.st.len
        rw [← hZ] at hsize
        obtain ⟨M, hM⟩ : ∃ M : Nat, M = s2.row.length := ⟨_, rfl⟩
        rw [← hM] at hlen
        have hlenm : ∀ ty : TypeId, (Builtin.len_ #[49] ty #[.map (some hb)]).run Try.prog W2 = .ok (.int .i64 M) W2 := fun ty => by
          have := MapP.len (P := Try.prog) Try.underlying49 j2.map ty
          rw [length_mapV, ← hM] at this
          exact this
        have cbs := cell_blk j2.box 0
        simp at cbs
        have HJ := Lib.hid j2; have HSZ := Lib.hid hsize; have HLN := Lib.hid hlen; have HR2 := Lib.hid hr2
        clear j2 hsize hlen hZ hM hr1 hr2
        go_wp2_with fail
        refine HSZ.out.mono ?_
        rintro e W4 ⟨rfl, rfl⟩
        go_wp2_with fail
        refine HLN.out.mono ?_
        rintro e W4 ⟨rfl, rfl⟩
        go_wp2
        go_roundg (N - (i + 1))
        case measure => have := HG.out; omega
        case rel => exact ⟨i + 1, s2, S2, by omega, rfl, by go_num, HJ.out, HQ2.out, by have := HR2.out; push_cast; omega⟩
    · have hiN : i = N := by omega
      subst hiN
      have cbs := cell_blk j.box 0
      simp at cbs
      have hri : Rising s.row := j.st.ok.rising
      have hsz : (sizeR s.row : Int) ≤ quota := by have := j.st.ok.size; rw [hqs] at this; exact this
      have hmany := j.st.ok.many
      have HJ := Lib.hid j
      clear hg hlt hi j
      go_wp2_with fail
      refine (arm_any HJ.out.st (.pointer none) (-1) (.inl ⟨rfl, rfl⟩) (.slice none 0 0) [] (Sl.nil _ _) (by decide)).mono ?_
      rintro e W1 ⟨S1, rfl, h1, k1, g1⟩
      have hs0 := HJ.out.st.self
      have j1 := HJ.out.turn' h1 k1 (fun x _ e => ⟨by rw [e]; exact HJ.out.low _ hs0, fun h => HJ.out.nin (by rw [← h, e]; exact hs0), fun h => HJ.out.nbox (by rw [← h, e]; exact hs0)⟩) (fun x e => (g1 x e).elim .inl (fun h => h.elim (fun h => by simp [vblk] at h) (fun h => .inr (.inl h))))
      obtain ⟨row, hrow⟩ : ∃ row, row = s.row := ⟨_, rfl⟩
      obtain ⟨q0, hq0'⟩ : ∃ q0 : Nat, s.ops = q0 := ⟨s.ops.toNat, by have := HJ.out.st.ok.ops.1; omega⟩
      have ecs : s.arm (-1) [] = cs quota row q0 := by
        unfold OS.arm cs
        rw [hrow, hqs, hq0']
      rw [ecs] at j1
      rw [← hrow] at j1 hri hsz hmany
      have hq60 : q0 ≤ 60 := by omega
      obtain ⟨W2, hrange, hran, hk2, hs2⟩ := MapP.range Try.underlying9 Try.underlying49 j1.map (rising_mapV strV hri)
      have j2 := j1.still hk2
      have hr0 : ¬ S1 W1.heap.size := fun e => by have := h1.lt _ e; omega
      have hpr : ps < W1.heap.size := lt_blk j1.box
      have hwr : w.heap.size ≤ W1.heap.size := j1.keep.size
      have HJ2 := Lib.hid j2; have HRAN := Lib.hid hran
      clear h1 k1 g1 hs0 j1 j2 hrow ecs hk2 hran HJ cbs hqs hos hq0'
      go_wp2
      clear hrange
      obtain ⟨r, hr⟩ : ∃ r, r = W1.heap.size := ⟨_, rfl⟩
      rw [← hr] at HRAN hr0 hpr hwr ⊢
      clear hr hs2
      go_loopg [16] row.length (fun g v16 wr => ∃ (lr : List (Bs × Bs)) (n k : Nat) (S : Nat → Prop), g = lr.length ∧ v16 = .int .i64 n ∧ n + sizeR lr = sizeR row ∧ k + lr.length ≤ 60 + row.length ∧ MRan Try.prog 9 wr hb r (mapV strV row) (mapV strV lr) ∧ RI w sb hb ps (.pointer none) S (cs quota row k) (mapV strV row) wr ∧ ¬ S r)
      case atStart => exact ⟨row, 0, q0, S1, rfl, rfl, by omega, by omega, HRAN.out, HJ2.out, hr0⟩
      case round =>
        obtain ⟨lr, n, k, S3, rfl, rfl, hcnt, hops, hran, j, hnr⟩ := hrel
        clear HRAN HJ2
        rcases MRan.next Try.underlying9 hran with ⟨hnil, hnx⟩ | ⟨nm, u, W3, hlk, hlm, hnx, hran3, hk3, hs3, hen⟩
        · have hl0 : lr = [] := by
            cases lr with
            | nil => rfl
            | cons a r => cases hnil
          subst hl0
          obtain ⟨Z, hZ⟩ : ∃ Z, Z = sizeR row := ⟨_, rfl⟩
          have hn : n = Z := by rw [hZ, ← hcnt]; rfl
          subst hn
          have hsize := j.st.size
          have esz : sizeR (cs quota row k).row = n := hZ.symm
          rw [esz] at hsize
          have cbs := cell_blk j.box 0
          simp at cbs
          have HSZ := Lib.hid hsize
          have HK := Lib.hid j.keep
          clear hcnt hran j hsize esz hZ hnil
          go_wp2_with fail
          refine HSZ.out.mono ?_
          rintro e W4 ⟨rfl, rfl⟩
          go_wp2
          go_ret
          exact ⟨rfl, HK.out⟩
        · obtain ⟨b, hb1, rfl⟩ : ∃ b, lk lr nm = some b ∧ u = strV b := by
            rw [lk_mapV] at hlk
            cases h : lk lr nm with
            | none => rw [h] at hlk; cases hlk
            | some b => rw [h] at hlk; exact ⟨b, rfl, by simpa using hlk.symm⟩
          have hrb : lk row nm = some b := by
            rw [lk_mapV] at hlm
            cases h : lk row nm with
            | none => rw [h] at hlm; cases hlm
            | some b' => rw [h] at hlm; simp [strV] at hlm; rw [hlm]
          have hrl : Rising lr := by
            obtain ⟨_, _, _, _, _, _, h, _⟩ := hran
            unfold Rising mapV at h
            rw [List.pairwise_map] at h
            exact h
          rw [delK_mapV] at hran3
          have hsum := sizeR_delK hrl nm
          rw [hb1] at hsum
          have hlen := length_delK_lt hrl hb1
          have j3 := j.turn' (S' := S3) (j.st.keep hk3 (fun x e => by rw [e]; exact hnr)) hk3 (fun x _ e => ⟨by rw [e]; exact hwr, by rw [e]; exact hran.ne, by omega⟩) (fun x e => .inl e)
          have hsz1 := (j.st.ok.names _ (lk_mem hrb)).1
          have hszm : (⟨nm.toArray⟩ : ByteArray).size ≤ maxLen := by
            unfold nameOK at hsz1
            simp at hsz1
            show nm.toArray.size ≤ _
            rw [List.size_toArray]
            unfold maxLen; omega
          have hle := lk_le row nm
          rw [hrb] at hle
          have cbs := cell_blk j3.box 0
          simp at cbs
          have HR3 := Lib.hid hran3; have HCN := Lib.hid hcnt; have HSU := Lib.hid hsum; have HLE := Lib.hid hlen; have HRB := Lib.hid hrb; have HJ3 := Lib.hid j3
          clear hran3 hcnt hsum hlen hrb hb1 hlk hlm hrl j hran hsz1 hk3 j3
          have hops' : k ≤ 5000 := by omega
          go_wp2_with fail
          refine (HJ3.out.st.get (cs_left _ _ _) (cs_ops _ _ _ (by omega)) ⟨nm.toArray⟩ hszm).mono ?_
          rintro e W4 ⟨xv, rfl, h4, t4, ho4⟩
          have g1 := cs_getCode (q := quota) (k := k) HRB.out
          have e1 : (cs quota row k).getCode (⟨nm.toArray⟩ : ByteArray).data.toList = 0 := g1.1
          have e2 : (cs quota row k).getBytes (⟨nm.toArray⟩ : ByteArray).data.toList = b := g1.2
          rw [e1]
          rw [e2] at ho4
          have h4 : St W4 sb (.pointer none) S3 (cs quota row (k + 1 : Nat)) := h4
          have j4 := HJ3.out.turn h4 t4
          have hx4 : BytesAt W4 xv b := (Sl.of_owns ho4).1
          have hran4 := HR3.out.keep t4.keep HJ3.out.nin hnr
          have hconv := conv_str hx4
          obtain ⟨xa, xc, rfl⟩ := own_slice ho4
          have hbn : b.length ≤ sizeR row := hle
          have hnb : (n : Int) + b.length ≤ quota := by
            have h1 := HCN.out; have h2 := HSU.out
            simp only [Option.getD_some] at h2
            omega
          have HJ4 := Lib.hid j4; have HR4 := Lib.hid hran4
          clear g1 e1 e2 h4 t4 j4 hx4 hran4 ho4 hle cbs
          go_wp2
          go_roundg (delK nm lr).length
          case measure => have := HLE.out; omega
          case rel => exact ⟨delK nm lr, n + b.length, k + 1, S3, rfl, by go_num, by have h1 := HCN.out; have h2 := HSU.out; simp only [Option.getD_some] at h2; omega, by have := HLE.out; omega, HR4.out, HJ4.out, hnr⟩
end Go.Proofs.Ytgnigkghkldcfaa
