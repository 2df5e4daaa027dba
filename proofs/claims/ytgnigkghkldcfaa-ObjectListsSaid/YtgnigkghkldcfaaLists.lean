/-
  coldstorelaw06.ObjectLists: true, of all steps and beginnings.
-/
import Derived.Test.YtgnigkghkldcfaaListsLaw
import Derived.Test.YtgnigkghkldcfaaBegins
import Derived.Test.YtgnigkghkldcfaaOps6
import Derived.Test.YtgnigkghkldcfaaSameL
import Derived.Deep.OwnRows
import Derived.WalkLawsBesides
namespace Go.Proofs.Ytgnigkghkldcfaa
open Go.RowKit Go.Proofs Go.Lib

/-- a store, and a map of the call's own beside it -/
structure LI (w : World) (sa hb : Nat) (Sa : Nat → Prop) (q : Int) (row : List (Bs × Bs)) (m : List (Bs × Value)) (i : Nat) (W : World) : Prop where
  st : St W sa (.pointer none) Sa (cs q row i)
  map : MapP Try.prog 9 W hb m
  nin : ¬ Sa hb
  hi : w.heap.size ≤ hb
  low : ∀ x, Sa x → w.heap.size ≤ x
  keep : Keep (fun _ => False) w W
  len : row.length ≤ i

section
variable {w : World} {sa hb : Nat} {Sa S' : Nat → Prop} {q : Int} {row row' : List (Bs × Bs)} {m m' : List (Bs × Value)} {i i' : Nat} {W W' : World}
theorem LI.still (j : LI w sa hb Sa q row m i W) (hk : Keep (fun _ => False) W W') : LI w sa hb Sa q row m i W' :=
  ⟨j.st.keep0 hk, j.map.keep hk id, j.nin, j.hi, j.low, j.keep.trans hk, j.len⟩
theorem LI.turn (j : LI w sa hb Sa q row m i W) (h : St W' sa (.pointer none) S' (cs q row' i')) (ht : Turn Sa S' W W') (hl : row'.length ≤ i') : LI w sa hb S' q row' m i' W' :=
  ⟨h, j.map.keep ht.keep j.nin, ht.not j.nin j.map.lt, j.hi, fun x e => (ht.grow x e).elim (j.low x) (fun e => Nat.le_trans j.keep.size e), j.keep.trans' ht.keep (fun _ _ e => e) (fun k hk e => by have := j.low k e; omega), hl⟩
theorem LI.put (j : LI w sa hb Sa q row m i W) (hm : MapP Try.prog 9 W' hb m') (hk : Keep (· = hb) W W') : LI w sa hb Sa q row m' i W' :=
  ⟨j.st.keep hk (fun x e => by rw [e]; exact j.nin), hm, j.nin, j.hi, j.low, j.keep.trans' hk (fun _ _ e => e) (fun k hk e => by have := j.hi; omega), j.len⟩
end

set_option maxRecDepth 100000 in
set_option maxHeartbeats 4000000 in
theorem lists_short {w : World} {v : Value} {L : List (Op6 × Value)} (hO : OpsAt w v L) (hf : fewB (L.map (·.1)) = true) (p : ByteArray) (hp : p.size ≤ 100) :
    Calls Try.prog 5 #[v, .string p] w fun e w' => e = .returned (.bool true) ∧ Keep (fun _ => False) w w' := by
  obtain ⟨va, vc, rfl⟩ : ∃ p k, v = .slice p L.length k := let ⟨_, p, k, e, _⟩ := hO.row; ⟨p, k, e⟩
  have HO := Lib.hid hO; clear hO
  have HF := Lib.hid hf; clear hf
  have hp' : (p.size : Int) ≤ 100 := by omega
  have hmk := run_makeMap_all 56
  go_enter Try.func5, Try.ntmps5
  go_wp2_with fail
  refine (alive_any w).mono ?_
  rintro e w1 ⟨rfl, k1⟩
  go_wp2_with fail
  refine (few_any (HO.out.keep k1 (fun _ _ e => e))).mono ?_
  rintro e w2 ⟨rfl, k2⟩
  rw [HF.out]
  go_wp2_with fail
  refine (new_any 1048576 _ (by decide) (by decide)).mono ?_
  rintro e w3 ⟨sa, rfl, ha3, k3⟩
  have k13 := (k1.trans k2).trans k3
  have J : LI w sa w3.heap.size (fun b => w2.heap.size ≤ b ∧ b < w3.heap.size) 1048576 [] (mapV lenV []) 0 (w3.alloc (.map #[] 0)) := by
    have ka : Keep (fun _ => False) w3 (w3.alloc (.map #[] 0)) := (Keep.refl _ _).alloc _
    exact ⟨ha3.keep0 ka, MapP.made w3, fun e => by omega, by have := k13.size; omega, fun x e => by have := (k1.trans k2).size; omega, k13.trans ka, by simp⟩
  obtain ⟨hb, hhb⟩ : ∃ hb, hb = w3.heap.size := ⟨_, rfl⟩
  obtain ⟨S0, hS0⟩ : ∃ S : Nat → Prop, S = fun b => w2.heap.size ≤ b ∧ b < w3.heap.size := ⟨_, rfl⟩
  rw [← hS0, ← hhb] at J
  have HHB := Lib.hid hhb
  clear ha3 k1 k2 k3 k13 hS0 hhb
  obtain ⟨N, hN⟩ : ∃ N : Nat, N = L.length := ⟨_, rfl⟩
  have HN := Lib.hid hN
  have hN60 : N ≤ 60 := by
    have := HF.out
    unfold fewB at this
    simp at this
    omega
  rw [← hN]
  clear hN
  go_wp2
  rw [← HHB.out]
  clear hmk
  go_loopg [40] N (fun g v40 wr => ∃ (i : Nat) (row : List (Bs × Bs)) (Sa : Nat → Prop), i ≤ N ∧ g = N - i ∧ v40 = .int .i64 i ∧ LI w sa hb Sa 1048576 row (mapV lenV row) i wr)
  case atStart => exact ⟨0, [], S0, Nat.zero_le _, rfl, rfl, J⟩
  case round =>
    obtain ⟨i, row, Sa, hi, hg, rfl, j⟩ := hrel
    clear J
    by_cases hlt : i < N
    · obtain ⟨o, ho⟩ : ∃ o, L[i]? = some o := ⟨_, List.getElem?_eq_getElem (by rw [← HN.out]; exact hlt)⟩
      have hOr := HO.out.keep j.keep (fun _ _ e => e)
      obtain ⟨vb, vo, vc', ev, v1, v2⟩ := Sl.base HO.out.row (by rw [← HN.out]; omega)
      cases ev
      obtain ⟨c0, c1, c2⟩ := hOr.cells ho
      have hpb := hOr.bytes o (List.mem_of_getElem? ho)
      have hps : shortOp o.1 = true := by
        have := HF.out
        unfold fewB at this
        rw [Bool.and_eq_true] at this
        exact List.all_eq_true.1 this.1 _ (List.mem_map.2 ⟨_, List.mem_of_getElem? ho, rfl⟩)
      obtain ⟨⟨kind, name, bs⟩, bv⟩ := o
      obtain ⟨ba, bc, rfl⟩ : ∃ a c, bv = .slice a bs.length c := let ⟨_, a, c, e, _⟩ := hpb; ⟨a, c, e⟩
      simp only [strV] at c1
      unfold shortOp at hps
      simp at hps
      rw [← HN.out] at v1
      unfold maxLen at v2
      have HG := Lib.hid hg
      have j1 := j.still ((Keep.refl _ wr).alloc (.cells #[.int .i64 kind, .string ⟨name.toArray⟩, .slice ba bs.length bc] 38))
      have hnb : ¬ Sa wr.heap.size := fun e => by have := j.st.lt _ e; omega
      have hpb1 : BytesAt (wr.alloc (.cells #[.int .i64 kind, .string ⟨name.toArray⟩, .slice ba bs.length bc] 38)) (.slice ba bs.length bc) bs := Sl.keep hpb ((Keep.refl (fun _ => False) wr).alloc _) (fun _ _ _ e => e)
      have hbox := alloc_new wr (.cells #[.int .i64 kind, .string ⟨name.toArray⟩, .slice ba bs.length bc] 38)
      have hsz : (⟨name.toArray⟩ : ByteArray).size ≤ maxLen := by unfold maxLen; simp [ByteArray.size]; omega
      have hsb : bs.length ≤ 200 := hps.2
      have hle := j.len
      have hri : Rising row := j.st.ok.rising
      clear hg hOr ho j hps hpb
      by_cases hkd : kind = 3
      · subst hkd
        have H1 := Lib.hid hbox; have HP := Lib.hid hpb1
        clear hbox hpb1
        go_wp2_with fail
        refine (j1.st.drop (cs_left _ _ _) (cs_ops _ _ _ (by omega)) ⟨name.toArray⟩ hsz).mono ?_
        rintro e W2 ⟨rfl, h2, t2⟩
        change St W2 sa _ Sa ((cs 1048576 row i).drop name) at h2
        rw [cs_dRow] at h2
        have cb1 := cell_blk (t2.keep.heap H1.out hnb) 1
        simp at cb1
        have j2 := j1.turn h2 t2 (Nat.le_trans (delK_le _ _) (by omega))
        obtain ⟨W3, hdel, hm3, hk3⟩ := MapP.drop Try.underlying9 Try.underlying56 j2.map ⟨name.toArray⟩ hsz 0
        have j3 := j2.put hm3 hk3
        rw [delK_mapV] at j3
        have J3 := Lib.hid j3
        clear j3 j2 j1 hm3 hk3 h2 t2
        go_wp2
        go_roundg (N - (i + 1))
        case measure => have := HG.out; omega
        case rel => exact ⟨i + 1, _, _, by omega, rfl, by go_num, J3.out⟩
      · have hk3' : (kind == 3) = false := by simpa using hkd
        have H1 := Lib.hid hbox; have HP := Lib.hid hpb1
        clear hbox hpb1
        go_wp2_with fail
        refine (j1.st.put (cs_left _ _ _) (cs_ops _ _ _ (by omega)) ⟨name.toArray⟩ hsz _ bs HP.out (by omega)).mono ?_
        rintro e W2 ⟨S2, rfl, h2, t2⟩
        change St W2 sa _ S2 ((cs 1048576 row i).put name bs) at h2
        rw [cs_pRow] at h2
        have j2 := j1.turn h2 t2 (Nat.le_trans (pRow_le hri _ _) (by omega))
        obtain ⟨c, hc⟩ : ∃ c, (cs 1048576 row i).putCode name bs = c := ⟨_, rfl⟩
        have ec : (cs 1048576 row i).putCode (⟨name.toArray⟩ : ByteArray).data.toList bs = c := hc
        rw [ec]
        have cb1 := cell_blk (t2.keep.heap H1.out hnb) 1
        have cb2 := cell_blk (t2.keep.heap H1.out hnb) 2
        simp at cb1 cb2
        by_cases h0 : c = 0
        · subst h0
          have hrow : pRow 1048576 row name bs = putK name bs row := by
            unfold pRow
            rw [← cs_code0 _ _ i, if_pos hc]
          obtain ⟨W3, hupd, hm3, hk3⟩ := MapP.update Try.underlying9 Try.underlying56 j2.map ⟨name.toArray⟩ hsz (by rw [length_mapV]; unfold maxLen; omega) (.int .i64 bs.length)
          have j3 := j2.put hm3 hk3
          have em : putK name (.int .i64 bs.length) (mapV lenV row) = mapV lenV (putK name bs row) := putK_mapV lenV row name bs
          change LI w sa hb S2 _ _ (putK name (.int .i64 bs.length) (mapV lenV row)) _ W3 at j3
          rw [hrow, em] at j3
          have J3 := Lib.hid j3
          clear j3 j2 j1 hm3 hk3 h2 t2 hrow em hc ec
          go_wp2
          go_roundg (N - (i + 1))
          case measure => have := HG.out; omega
          case rel => exact ⟨i + 1, _, _, by omega, rfl, by go_num, J3.out⟩
        · have hrow : pRow 1048576 row name bs = row := by
            unfold pRow
            rw [← cs_code0 _ _ i, if_neg (by rw [hc]; exact h0)]
          rw [hrow] at j2
          have h0' : (c == 0) = false := by simpa using h0
          have J2 := Lib.hid j2
          clear j2 j1 h2 t2 hrow hc ec h0
          go_wp2
          go_roundg (N - (i + 1))
          case measure => have := HG.out; omega
          case rel => exact ⟨i + 1, _, _, by omega, rfl, by go_num, J2.out⟩
    · have hiN : i = N := by omega
      subst hiN
      have hri : Rising row := j.st.ok.rising
      have hlen := j.len
      clear hg hlt hi
      obtain ⟨pre, hpre⟩ : ∃ pre : Bs → Bool, ∀ k, pre k = hasPre k p.data.toList := ⟨_, fun _ => rfl⟩
      obtain ⟨ns, hns⟩ : ∃ ns, ns = (row.map (·.1)).filter pre := ⟨_, rfl⟩
      go_wp2_with fail
      refine (j.st.list (cs_left _ _ _) (cs_ops _ _ _ (by omega)) p).mono ?_
      rintro e W1 ⟨lv, rfl, h1, t1, hl1, -⟩
      rw [cs_code]
      have h1 : St W1 sa (.pointer none) Sa (cs 1048576 row (i + 1 : Nat)) := h1
      have j1 := j.turn h1 t1 (by omega)
      have el : (cs 1048576 row i).listed p.data.toList = ns := by
        unfold OS.listed OS.names
        rw [if_pos (cs_code _ _ _), hns]
        exact List.filter_congr (fun x _ => (hpre x).symm)
      rw [el] at hl1
      obtain ⟨la, ln, lc, rfl⟩ : ∃ a n c, lv = .slice a n c := let ⟨_, a, c, e, _⟩ := hl1; ⟨a, _, c, e⟩
      have hns60 : ns.length ≤ i := by
        rw [hns]
        refine Nat.le_trans (List.length_filter_le _ _) ?_
        rw [List.length_map]; omega
      have eln : ln = ns.length := by obtain ⟨_, a, c, e, _⟩ := hl1; cases e; rfl
      obtain ⟨W2, hrange, hran, hk2, hs2⟩ := MapP.range Try.underlying9 Try.underlying56 j1.map (rising_mapV lenV hri)
      have HJ := Lib.hid j1; have HL := Lib.hid hl1; have HK2 := Lib.hid hk2; have HRAN := Lib.hid hran; have HLN := Lib.hid eln; have HNS := Lib.hid hns
      clear h1 t1 j j1 el hl1 hk2 hran eln hns hs2
      go_wp2
      clear hrange
      obtain ⟨r, hr⟩ : ∃ r, r = W1.heap.size := ⟨_, rfl⟩
      rw [← hr]
      rw [← hr] at HRAN
      have HR := Lib.hid hr; clear hr
      go_loopg [12] row.length (fun g v12 wr => ∃ (l : List (Bs × Value)) (n : Nat), g = l.length ∧ v12 = .int .i64 n ∧ n + (l.filter (fun e => pre e.1)).length = ns.length ∧ MRan Try.prog 9 wr hb r (mapV lenV row) l ∧ Keep (fun _ => False) W1 wr)
      case atStart =>
        refine ⟨mapV lenV row, 0, (length_mapV _ _).symm, rfl, ?_, HRAN.out, HK2.out⟩
        rw [HNS.out]
        unfold mapV
        simp [List.filter_map, Function.comp_def]
      case round =>
        obtain ⟨l, n, rfl, rfl, hcnt, hran, hkr⟩ := hrel
        rcases MRan.next Try.underlying9 hran with ⟨rfl, hnx⟩ | ⟨k, u, W3, hlk, hlm, hnx, hran3, hk3, hs3, hen⟩
        · have en : n = ns.length := by simpa using hcnt
          have jw := HJ.out.still hkr
          have hlw : StrsAt wr (.slice la ln lc) ns := Sl.keep HL.out hkr (fun _ _ _ e => e)
          obtain ⟨W5, hW5⟩ : ∃ W5 : World, W5 = wr := ⟨_, rfl⟩
          rw [← hW5] at jw hlw
          have enl : ln = n := HLN.out.trans en.symm
          subst enl
          have HJW := Lib.hid jw; have HLW := Lib.hid hlw; have HEN := Lib.hid en; have HW5 := Lib.hid hW5
          clear jw hlw hcnt hran hkr HJ HL HK2 HRAN HR en hW5
          go_wp2
          clear hnx
          have hln63 : ln ≤ 1000 := by rw [HLN.out]; omega
          go_loopg [87] ln (fun g v87 wr' => ∃ i', i' ≤ ln ∧ g = ln - i' ∧ v87 = .int .i64 i' ∧ wr' = W5)
          case atStart => exact ⟨0, Nat.zero_le _, rfl, rfl, HW5.out.symm⟩
          case round =>
            obtain ⟨k, hk, hg, rfl, rfl⟩ := hrel
            by_cases hlt : k < ln
            · obtain ⟨nm, hnm⟩ : ∃ nm, ns[k]? = some nm := ⟨_, List.getElem?_eq_getElem (by rw [← HLN.out]; exact hlt)⟩
              have hmem : nm ∈ ns := List.mem_of_getElem? hnm
              have hpn : hasPre nm p.data.toList = true := by
                rw [HNS.out, List.mem_filter] at hmem
                rw [← hpre]; exact hmem.2
              obtain ⟨b, hb⟩ : ∃ b, (nm, b) ∈ row := by
                rw [HNS.out, List.mem_filter, List.mem_map] at hmem
                obtain ⟨⟨x, hx, rfl⟩, _⟩ := hmem
                exact ⟨x.2, hx⟩
              have hsz := (HJW.out.st.ok.names _ hb).1
              have hlk : lk (mapV lenV row) nm = some (lenV b) := by rw [lk_mapV, lk_of_mem hri hb]; rfl
              have hszm : (⟨nm.toArray⟩ : ByteArray).size ≤ maxLen := by
                unfold nameOK at hsz
                simp at hsz
                show nm.toArray.size ≤ _
                rw [List.size_toArray]
                unfold maxLen; omega
              have hlook := MapP.look_ok Try.underlying9 Try.underlying56 HJW.out.map ⟨nm.toArray⟩ hszm (zero_int _)
              have e1 : lk (mapV lenV row) (⟨nm.toArray⟩ : ByteArray).data.toList = some (lenV b) := hlk
              rw [e1] at hlook
              simp only [Option.getD_some, Option.isSome_some, lenV] at hlook
              have hL : Sl wr 1 (.slice la ln lc) ln (ns.map strV) := by have := HLW.out; unfold StrsAt at this; rw [← HLN.out] at this; exact this
              obtain ⟨lb, lo, lc', ev, l1, l2⟩ := Sl.base hL (by omega)
              cases ev
              have cx : wr.cell? ⟨lb, lo + k, none⟩ = some (.string ⟨nm.toArray⟩) := Sl.at1 hL (by simp [hnm])
              unfold maxLen at l2
              have i1 : (0 : Int) ≤ k := by omega
              have i2 : (k : Int) < ln := by omega
              have HB := begins_any wr ⟨nm.toArray⟩ p
              have ep : hasPre (⟨nm.toArray⟩ : ByteArray).data.toList p.data.toList = true := hpn
              rw [ep] at HB
              have HG3 := Lib.hid hg
              clear hg hmem hpn hb hsz hlk e1 ep
              by_cases hpos : (0 : Int) < k
              · obtain ⟨pm, hpm⟩ : ∃ nm, ns[k - 1]? = some nm := ⟨_, List.getElem?_eq_getElem (by rw [← HLN.out]; omega)⟩
                have cy : wr.cell? ⟨lb, lo + (k - 1), none⟩ = some (.string ⟨pm.toArray⟩) := Sl.at1 hL (by simp [hpm])
                have i3 : (0 : Int) ≤ k - 1 := by omega
                have i4 : (k : Int) - 1 < ln := by omega
                have hless : Op.bytesLess pm nm = true := rising_names hri pre (k := k - 1) (l := k) (by omega) (by rw [← HNS.out]; exact hpm) (by rw [← HNS.out]; exact hnm)
                clear hL hpm hnm
                go_wp2_with fail
                refine HB.mono ?_
                rintro e W6 ⟨rfl, rfl⟩
                go_wp2
                go_roundg (ln - (k + 1))
                case measure => have := HG3.out; omega
                case rel => exact ⟨k + 1, by omega, rfl, by go_num, rfl⟩
              · clear hL hnm
                go_wp2_with fail
                refine HB.mono ?_
                rintro e W6 ⟨rfl, rfl⟩
                go_wp2
                go_roundg (ln - (k + 1))
                case measure => have := HG3.out; omega
                case rel => exact ⟨k + 1, by omega, rfl, by go_num, rfl⟩
            · have hkl : k = ln := by omega
              subst hkl
              have j5 := HJW.out
              have HL5 := HLW
              have HNL := HLN
              clear hg hlt hk HJW HW5 HLW HEN h1
              go_wp2_with fail
              refine (j5.st.list (cs_left _ _ _) (cs_ops _ _ _ (by omega)) ⟨#[]⟩).mono ?_
              rintro e W6 ⟨av, rfl, h6, t6, hl6, -⟩
              rw [cs_code]
              have h6 : St W6 sa (.pointer none) Sa (cs 1048576 row (i + 1 + 1 : Nat)) := h6
              have j6 := j5.turn h6 t6 (by omega)
              have el : (cs 1048576 row (i + 1 : Nat)).listed (⟨#[]⟩ : ByteArray).data.toList = row.map (·.1) := cs_listed _ _ _
              rw [el] at hl6
              obtain ⟨ga, gn, gc, rfl⟩ : ∃ a n c, av = .slice a n c := let ⟨_, a, c, e, _⟩ := hl6; ⟨a, _, c, e⟩
              have HL6 := Lib.hid hl6
              clear h6 t6 el j5 hl6
              go_wp2_with fail
              refine (names_any j6.st 1000 (by decide) (by decide)).mono ?_
              rintro e W7 ⟨x, y, rfl, hx, hy, -, -, hk7⟩
              have j7 := j6.still hk7
              rw [cs_all _ _ _ (by omega)] at hx hy
              have e1 : (row.map (fun r => (r.1, r.2.length))).map (·.1) = row.map (·.1) := by rw [List.map_map]; rfl
              have e2 : (row.map (fun r => (r.1, r.2.length))).map (fun p => (p.2 : Int)) = row.map (fun r => (r.2.length : Int)) := by rw [List.map_map]; rfl
              rw [e1] at hx
              rw [e2] at hy
              have hg7 : StrsAt W7 (.slice ga gn gc) (row.map (·.1)) := Sl.keep HL6.out hk7 (fun _ _ _ e => e)
              obtain ⟨xa, xn, xc, rfl⟩ : ∃ a n c, x = .slice a n c := let ⟨_, a, c, e, _⟩ := hx; ⟨a, _, c, e⟩
              obtain ⟨ya, yn, yc, rfl⟩ : ∃ a n c, y = .slice a n c := let ⟨_, a, c, e, _⟩ := hy; ⟨a, _, c, e⟩
              have exn : xn = row.length := by obtain ⟨_, a, c, e, _⟩ := hx; cases e; simp
              have eyn : yn = row.length := by obtain ⟨_, a, c, e, _⟩ := hy; cases e; simp
              have hX : Sl W7 1 (.slice xa xn xc) xn ((row.map (·.1)).map strV) := by have := hx; unfold StrsAt at this; rw [List.length_map, ← exn] at this; exact this
              have hY : Sl W7 1 (.slice ya xn yc) xn ((row.map (fun r => (r.2.length : Int))).map (.int .i64)) := by have := hy; unfold IntsAt at this; rw [List.length_map, ← exn] at this; rw [exn, ← eyn]; rw [exn, ← eyn] at this; exact this
              rw [← exn] at eyn
              subst eyn
              have HX := Lib.hid hX; have HY := Lib.hid hY; have HX7 := Lib.hid hx; have HG7 := Lib.hid hg7; have HJ7 := Lib.hid j7; have HXN := Lib.hid exn
              have hxn : yn ≤ 60 := by omega
              obtain ⟨W8, hW8⟩ : ∃ W8 : World, W8 = W7 := ⟨_, rfl⟩
              rw [← hW8] at HX HY HX7 HG7 HJ7
              have HW8 := Lib.hid hW8
              clear hx hy hg7 hX hY j7 j6 hk7 e1 e2 exn HL6 hW8
              go_wp2
              go_loopg [132] yn (fun g v132 wr => ∃ k q : Nat, k ≤ yn ∧ g = yn - k ∧ v132 = .int .i64 k ∧ wr = W8.drewN q)
              case atStart => exact ⟨0, 0, Nat.zero_le _, rfl, rfl, HW8.out.symm⟩
              case round =>
                obtain ⟨l, q, hl, hg, rfl, rfl⟩ := hrel
                by_cases hlt : l < yn
                · obtain ⟨⟨nm, b⟩, hr⟩ : ∃ r, row[l]? = some r := ⟨_, List.getElem?_eq_getElem (by rw [← HXN.out]; exact hlt)⟩
                  have hmem := List.mem_of_getElem? hr
                  have hsz := (HJ7.out.st.ok.names _ hmem).1
                  have hszm : (⟨nm.toArray⟩ : ByteArray).size ≤ maxLen := by
                    unfold nameOK at hsz
                    simp at hsz
                    show nm.toArray.size ≤ _
                    rw [List.size_toArray]
                    unfold maxLen; omega
                  have e1 : lk (mapV lenV row) (⟨nm.toArray⟩ : ByteArray).data.toList = some (lenV b) := by
                    show lk (mapV lenV row) nm = _
                    rw [lk_mapV, lk_of_mem hri hmem]; rfl
                  have hlook : ∀ q, (Instr.lookup 56 (.map (some hb)) (.string ⟨nm.toArray⟩) false).run Try.prog (W8.drewN q) = .ok (.int .i64 b.length) (W8.drewN q) := fun q => by
                    have := MapP.look Try.underlying9 Try.underlying56 (HJ7.out.map.keep ((Keep.refl (fun _ => False) _).drewN q) id) ⟨nm.toArray⟩ hszm (zero_int _)
                    rw [e1] at this
                    exact this
                  obtain ⟨xb, xo, xc', ex, x1, x2⟩ := Sl.base HX.out (by omega)
                  obtain ⟨yb, yo, yc', ey, y1, y2⟩ := Sl.base HY.out (by omega)
                  cases ex; cases ey
                  have cx : W8.cell? ⟨xb, xo + l, none⟩ = some (.string ⟨nm.toArray⟩) := Sl.at1 HX.out (by simp [hr])
                  have cy : W8.cell? ⟨yb, yo + l, none⟩ = some (.int .i64 b.length) := Sl.at1 HY.out (by simp [hr])
                  unfold maxLen at x2 y2
                  have i1 : (0 : Int) ≤ l := by omega
                  have i2 : (l : Int) < yn := by omega
                  have HGG := Lib.hid hg
                  clear hg hr hmem hsz e1
                  go_wp2_with fail
                  go_quiet (fail)
                  go_wp2
                  go_roundg (yn - (l + 1))
                  case measure => have := HGG.out; omega
                  case rel => exact ⟨l + 1, q + nq, by omega, rfl, by go_num, rfl⟩
                · have hly : l = yn := by omega
                  subst hly
                  have hk9 : Keep (fun _ => False) W8 (W8.drewN q) := (Keep.refl _ _).drewN q
                  have hss := sameStrings_any (Sl.keep HG7.out hk9 (fun _ _ _ e => e) : StrsAt (W8.drewN q) _ _) (Sl.keep HX7.out hk9 (fun _ _ _ e => e) : StrsAt (W8.drewN q) _ _)
                  rw [decide_eq_true rfl] at hss
                  have HSS := Lib.hid hss
                  clear hg hlt hl hss
                  go_wp2_with fail
                  refine HSS.out.mono ?_
                  rintro e W9 ⟨rfl, hk10⟩
                  have j9 := (HJ7.out.still hk9).still hk10
                  have hlenm : ∀ ty : TypeId, (Builtin.len_ #[56] ty #[.map (some hb)]).run Try.prog W9 = .ok (.int .i64 l) W9 := fun ty => by
                    have := MapP.len (P := Try.prog) Try.underlying56 j9.map ty
                    rw [length_mapV, ← HXN.out] at this
                    exact this
                  have HK := Lib.hid j9.keep
                  clear j9 hk10 hk9 hlen
                  go_wp2
                  go_ret
                  exact ⟨rfl, HK.out⟩
        · have HC := Lib.hid hcnt; have HRN := Lib.hid hran3; have HLK := Lib.hid hlk; have HKR := Lib.hid hkr; have HK3 := Lib.hid hk3
          have hrl : Rising l := let ⟨_, _, _, _, _, _, h, _⟩ := hran; h
          have HRL := Lib.hid hrl
          have hn60 : n ≤ 60 := by omega
          clear hcnt hran3 hlk hkr hk3 hran hrl hlm
          go_wp2_with fail
          refine (begins_any _ ⟨k.toArray⟩ p).mono ?_
          rintro e W4 ⟨rfl, rfl⟩
          have ep : hasPre (⟨k.toArray⟩ : ByteArray).data.toList p.data.toList = pre k := (hpre k).symm
          rw [ep]
          have hc2 := count_delK HRL.out HLK.out pre
          have hc3 := length_delK_lt HRL.out HLK.out
          have HC2 := Lib.hid hc2; have HC3 := Lib.hid hc3
          clear hc2 hc3 ep
          have HN2 := Lib.hid HC.out
          clear HC
          cases hpk : pre k
          · have hpk2 := Lib.hid hpk; clear hpk
            go_wp2
            go_roundg (delK k l).length
            case measure => have := HC3.out; omega
            case rel => exact ⟨delK k l, n, rfl, rfl, by have h1 := HC2.out; have h2 := HN2.out; rw [hpk2.out] at h1; simp at h1; omega, HRN.out, HKR.out.trans' HK3.out (fun _ _ e => e) (fun i hi e => by have := HR.out; omega)⟩
          · have hpk2 := Lib.hid hpk; clear hpk
            go_wp2
            go_roundg (delK k l).length
            case measure => have := HC3.out; omega
            case rel => exact ⟨delK k l, n + 1, rfl, by go_num, by have h1 := HC2.out; have h2 := HN2.out; rw [hpk2.out] at h1; simp at h1; omega, HRN.out, HKR.out.trans' HK3.out (fun _ _ e => e) (fun i hi e => by have := HR.out; omega)⟩
end Go.Proofs.Ytgnigkghkldcfaa
