/-
  coldstoreref06.List.
-/
import Derived.Test.YtgnigkghkldcfaaRef6f
namespace Go.Proofs.Ytgnigkghkldcfaa
open Go.RowKit Go.Proofs Go.Lib

theorem RBoxes.own {w : World} {RS : Nat → Prop} {s : OS} {ra : Option Addr} {rn rc : Nat} {fa : Option Addr} {fn fc : Nat} {L : List ((Bs × Bs) × Value)} {q o l : Int} {W W' : World} (j : RBoxes w RS s ra rn rc fa fn fc L q o l W) (hRS : ∀ b, RS b → b < w.heap.size) {F : Nat → Prop} (hk : Keep F W W') (hF : ∀ b, F b → w.heap.size + 2 ≤ b) : RBoxes w RS s ra rn rc fa fn fc L q o l W' :=
  ⟨hk.heap j.a (fun e => by have := hF _ e; omega), hk.heap j.b (fun e => by have := hF _ e; omega), j.r.keep hk (fun b e h => by have := hF _ e; have := hRS _ h; omega), j.n, j.v, j.keep.trans' hk (fun _ _ e => e) (fun i hi e => by have := hF _ e; omega)⟩

/-- what List comes to -/
def ListRef (RS : Nat → Prop) (s : OS) (p : Bs) (w : World) (e : Ending) (w' : World) : Prop :=
  ∃ v' ov, e = .returned (.tuple #[v', ov, .int .i64 s.code]) ∧ Rf w' v' RS s.op ∧ StrsAt w' ov (s.listed p) ∧ (∀ x, vblk ov = some x → w.heap.size ≤ x) ∧ Keep (fun _ => False) w w'

theorem names_snoc (row : List (Bs × Bs)) (p : Bs) {k : Nat} {e : Bs × Bs} (h : row[k]? = some e) :
    ((row.take (k + 1)).map (·.1)).filter (fun x => hasPre x p) = ((row.take k).map (·.1)).filter (fun x => hasPre x p) ++ (if hasPre e.1 p then [e.1] else []) := by
  rw [List.take_add_one, h]
  simp only [List.map_append, List.filter_append, Option.toList]
  congr 1
  simp only [List.map_cons, List.map_nil]
  cases hp : hasPre e.1 p <;> simp [hp]

set_option maxRecDepth 100000 in
set_option maxHeartbeats 8000000 in
theorem r6list_any {w : World} {v : Value} {RS : Nat → Prop} {s : OS} (h : Rf w v RS s) (hRS : ∀ b, RS b → b < w.heap.size) (hl : s.left ≠ 0) (hl1 : -1 ≤ s.left ∧ s.left ≤ 9223372036854775807) (ho : s.ops < 4611686018427387904) (hok : s.Ok) (nm : ByteArray) :
    Calls Try.prog 67 #[v, .string nm] w (ListRef RS s nm.data.toList w) := by
  obtain ⟨rv, fv, L, rfl, h⟩ := h
  obtain ⟨ra, rn, rc, rfl⟩ : ∃ a n c, rv = .slice a n c := let ⟨_, a, c, e, _⟩ := h.rows.row; ⟨a, _, c, e⟩
  obtain ⟨fa, fn, fc, rfl⟩ : ∃ a n c, fv = .slice a n c := let ⟨_, a, c, e, _⟩ := h.faults; ⟨a, _, c, e⟩
  have H := Lib.hid (show Rf w (refV (.slice ra rn rc) (.slice fa fn fc) s) RS s from ⟨_, _, L, rfl, h⟩)
  clear h
  have k2 : Keep (fun _ => False) w ((w.alloc (.cells #[.slice ra rn rc, .int .i64 s.quota, .int .i64 s.ops, .int .i64 s.left, .slice fa fn fc] 35)).alloc (.cells #[.slice none 0 0, .int .i64 0, .int .i64 0, .int .i64 0, .slice none 0 0] 35)) := ((Keep.refl _ _).alloc _).alloc _
  have hA : ((w.alloc (.cells #[.slice ra rn rc, .int .i64 s.quota, .int .i64 s.ops, .int .i64 s.left, .slice fa fn fc] 35)).alloc (.cells #[.slice none 0 0, .int .i64 0, .int .i64 0, .int .i64 0, .slice none 0 0] 35)).heap[w.heap.size]? = some (.cells #[.slice ra rn rc, .int .i64 s.quota, .int .i64 s.ops, .int .i64 s.left, .slice fa fn fc] 35 (0, 0)) := alloc_blk (alloc_new _ _) _
  have hB : ((w.alloc (.cells #[.slice ra rn rc, .int .i64 s.quota, .int .i64 s.ops, .int .i64 s.left, .slice fa fn fc] 35)).alloc (.cells #[.slice none 0 0, .int .i64 0, .int .i64 0, .int .i64 0, .slice none 0 0] 35)).heap[w.heap.size + 1]? = some (.cells #[.slice none 0 0, .int .i64 0, .int .i64 0, .int .i64 0, .slice none 0 0] 35 (0, 0)) := by
    have := alloc_new (w.alloc (.cells #[.slice ra rn rc, .int .i64 s.quota, .int .i64 s.ops, .int .i64 s.left, .slice fa fn fc] 35)) (.cells #[.slice none 0 0, .int .i64 0, .int .i64 0, .int .i64 0, .slice none 0 0] 35)
    rw [World.size_alloc] at this
    exact this
  have K2 := Lib.hid k2; have HA := Lib.hid hA; have HB := Lib.hid hB; have HRS := Lib.hid hRS
  clear k2 hA hB hRS
  unfold refV
  go_enter Try.func67, Try.ntmps67
  go_wp2_with fail
  refine (r6op_any (H.out.keep0 K2.out) hl hl1 ⟨hok.ops.1, ho⟩).mono ?_
  rintro e w1 ⟨v1, rfl, hR1, k1⟩
  have hA1 := k1.heap HA.out id
  have hB1 := k1.heap HB.out id
  have K1 := Lib.hid (K2.out.trans k1)
  obtain ⟨ra1, rn1, rc1, fa1, fn1, fc1, q, o, l, L1, rfl, hq, mk⟩ := rboxes_of (w := w) HRS.out hR1
  have HA1 := Lib.hid hA1; have HB1 := Lib.hid hB1; have MK := Lib.hid mk
  clear hA1 hB1 mk hq k1 hR1
  by_cases hc : s.code = 0
  · have hls : s.listed nm.data.toList = (s.row.map (·.1)).filter (fun x => hasPre x nm.data.toList) := by unfold OS.listed OS.names; rw [if_pos hc]
    have HLS := Lib.hid hls; have HC0 := Lib.hid hc
    obtain ⟨i0, hi, hz0, hz1, hz2⟩ := info_parts info_string
    rw [hc]
    clear hls hc
    obtain ⟨K, hK⟩ : ∃ K, K = nm.data.toList := ⟨_, rfl⟩
    rw [← hK]
    rw [← hK] at HLS
    have HK := Lib.hid hK
    have hmany := hok.many
    have HMY := Lib.hid hmany
    clear hK hmany
    go_wp2_with (refine wpList_store_box rfl 35 (.tmp 2) (.tmp 13) rfl (w.heap.size) #[.slice ra1 rn1 rc1, .int .i64 q, .int .i64 o, .int .i64 l, .slice fa1 fn1 fc1] (by rfl) (by rfl) HA1.out (by kernel_rfl) rfl (five_one _ _ _ _ _ _ _ _ _) ?_; intro W2 hA2 kA2; have J := MK.out W2 kA2 hA2 (kA2.heap HB1.out (by omega)) (K1.out.trans' kA2 (fun _ _ e => e) (fun i hi e => by omega)); obtain ⟨⟨a0, a1, a2, a3, a4⟩, af⟩ := five_cells hA2; have HJ := Lib.hid J; clear J hA2 kA2)
    have hrn : rn1 = s.row.length := by rw [HJ.out.n, ← show L1.map (·.1) = s.row from HJ.out.r.is, List.length_map]
    have hr46 : rn1 ≤ 4096 := by rw [hrn]; exact HMY.out
    have HRN := Lib.hid hrn
    obtain ⟨B0, hB0⟩ : ∃ B0, B0 = W2.heap.size := ⟨_, rfl⟩
    have hB2 : w.heap.size + 2 ≤ B0 := by have := lt_blk HJ.out.b; omega
    have own0 : (W2.alloc (.cells #[] 9)).ownsRow B0 9 1 (.slice (some ⟨B0, 0, none⟩) 0 0) 0 [] := by
      rw [hB0]; exact World.ownsRow_made W2 #[] 0 (Nat.le_refl _) (Nat.zero_le _) rfl
    have J3 := HJ.out.still ((Keep.refl _ _).alloc (.cells #[] 9))
    have hz3 : B0 ≤ (W2.alloc (.cells #[] 9)).heap.size := by rw [hB0]; simp
    rw [← hB0]
    have HB0 := Lib.hid hB0
    clear hrn hB0 a0 a1 a2 a3 a4 af
    go_loopg [8, 9] rn1 (fun g v8 v9 wr => ∃ (k n : Nat), k ≤ rn1 ∧ g = rn1 - k ∧ v9 = .int .i64 k ∧ n = (((s.row.take k).map (·.1)).filter (fun x => hasPre x K)).length ∧ wr.ownsRow B0 9 1 v8 n ((((s.row.take k).map (·.1)).filter (fun x => hasPre x K)).map strV) ∧ RBoxes w RS s.op ra1 rn1 rc1 fa1 fn1 fc1 L1 q o l wr ∧ B0 ≤ wr.heap.size)
    case atStart => exact ⟨0, 0, Nat.zero_le _, rfl, rfl, rfl, own0, J3, hz3⟩
    case round =>
      obtain ⟨k, n, hk, hg, rfl, hn, hown, j, hbz⟩ := hrel
      clear own0 J3 hz3
      obtain ⟨⟨a0, a1, a2, a3, a4⟩, af⟩ := five_cells j.a
      obtain ⟨va, vc, rfl⟩ := own_slice hown
      have hnk : n ≤ 4096 := by
        rw [hn]
        refine Nat.le_trans (List.length_filter_le _ _) ?_
        rw [List.length_map, List.length_take, ← HRN.out]; omega
      by_cases hlt : k < rn1
      · obtain ⟨p, hp⟩ : ∃ p, L1[k]? = some p := ⟨_, List.getElem?_eq_getElem (by rw [← HJ.out.n]; exact hlt)⟩
        have hrow : s.row[k]? = some p.1 := by rw [← show L1.map (·.1) = s.row from HJ.out.r.is, List.getElem?_map, hp]; rfl
        have hrr : Sl wr 2 (.slice ra1 rn1 rc1) rn1 (L1.flatMap thCells) := by have := j.r.rows.row; rw [← j.n] at this; exact this
        obtain ⟨rb, ro, rc', ev, r1, r2⟩ := Sl.base hrr (by omega)
        cases ev
        obtain ⟨t0, _⟩ := j.r.rows.cells hp
        obtain ⟨⟨nk, bs⟩, bv⟩ := p
        dsimp only at t0 hrow
        simp only [strV] at t0
        have hsn := names_snoc s.row K hrow
        dsimp only at hsn
        have i1 : (0 : Int) ≤ k := by omega
        have i2 : (k : Int) < rn1 := by omega
        unfold maxLen at r2
        have HSN := Lib.hid hsn; have HG := Lib.hid hg; have HN := Lib.hid hn; have HOW := Lib.hid hown; have HJr := Lib.hid j
        clear hsn hg hn hown j hrow hp hrr
        go_wp2_with fail
        refine (begins_any wr ⟨nk.toArray⟩ nm).mono ?_
        rintro e W4 ⟨rfl, rfl⟩
        have ep : hasPre (⟨nk.toArray⟩ : ByteArray).data.toList nm.data.toList = hasPre nk K := by rw [HK.out]
        rw [ep]
        cases hpre : hasPre nk K
        · have hs2 := HSN.out
          rw [hpre] at hs2
          simp only [Bool.false_eq_true, if_false, List.append_nil] at hs2
          have HS2 := Lib.hid hs2
          clear hs2 hpre ep
          go_wp2
          go_roundg (rn1 - (k + 1))
          case measure => have := HG.out; omega
          case rel => exact ⟨k + 1, n, by omega, rfl, by go_num, by rw [HS2.out]; exact HN.out, by rw [HS2.out]; exact HOW.out, HJr.out, hbz⟩
        · have hs2 := HSN.out
          rw [hpre] at hs2
          simp only [if_true] at hs2
          have one1 : ∀ u ∈ [Value.string ⟨nk.toArray⟩], u.oneCell' = true := by intro u hu; simp at hu; rw [hu]; rfl
          have n4 : n + 1 ≤ maxLen := by unfold maxLen; omega
          have n5 : (n + 1) * 16 ≤ 140737488355328 := by omega
          have n6 : B0 ≤ (wr.alloc (.cells #[.string ⟨nk.toArray⟩] 9)).heap.size := by simp; omega
          have hlo : ∀ x, vblk (.slice va n vc) = some x → B0 ≤ x := fun x e => (own_lt HOW.out x e).1
          have HS2 := Lib.hid hs2; have ONE1 := Lib.hid one1; have N4 := Lib.hid n4; have N5 := Lib.hid n5; have N6 := Lib.hid n6; have HLO := Lib.hid hlo
          clear hs2 hpre ep one1 n4 n5 n6 hlo
          go_wp2_with (at_builtin; refine wpList_append_sl rfl (.tmp 35) (.tmp 42) 44 rfl B0 9 i0 _ 1 16 Try.underlying44 hi hz0 hz1 hz2 rfl (by decide) (.slice va n vc) n ((((s.row.take k).map (·.1)).filter (fun x => hasPre x K)).map strV) rfl (HOW.out.alloc _) _ 1 [.string ⟨nk.toArray⟩] rfl (sl_made wr 1 1 #[.string ⟨nk.toArray⟩] 9 rfl (by decide)) ONE1.out N4.out N5.out N6.out ?_; intro v8 Y1 hown1 hk1 hb1; have HOWN1 := Lib.hid hown1; have HK1 := Lib.hid hk1; clear hown1 hk1 hb1)
          go_roundg (rn1 - (k + 1))
          case measure => have := HG.out; omega
          case rel =>
            refine ⟨k + 1, n + 1, by omega, rfl, by go_num, ?_, ?_, (HJr.out.still ((Keep.refl _ _).alloc _)).own HRS.out HK1.out (fun b e => by have := HLO.out b e; omega), Nat.le_trans N6.out HK1.out.size⟩
            · rw [HS2.out, List.length_append, ← HN.out]; rfl
            · rw [HS2.out, List.map_append]
              exact HOWN1.out
      · have hkN : k = rn1 := by omega
        have htk : s.row.take k = s.row := List.take_of_length_le (by rw [← HRN.out]; omega)
        rw [htk, ← HLS.out, HK.out] at hown hn
        have HJr := Lib.hid j; have HOW := Lib.hid hown; have HN := Lib.hid hn
        clear hown hn j hg htk
        go_wp2_with (refine wpList_store_box rfl 35 (.tmp 4) (.tmp 44) rfl (w.heap.size + 1) #[.slice ra1 rn1 rc1, .int .i64 q, .int .i64 o, .int .i64 l, .slice fa1 fn1 fc1] (by rfl) (by rfl) HJr.out.b (by kernel_rfl) rfl (five_one _ _ _ _ _ _ _ _ _) ?_; intro W9 hA9 kA9)
        refine bodyPost_ret (results_cell_tmp2 _ _ _ _ _ _ _ (by rfl) hA9 Try.underlying35 rfl (by kernel_rfl) rfl) rfl ?_
        have fin := HJr.out.fin HRS.out kA9 0
        obtain ⟨v2, e2, hR2, hK2⟩ := fin
        simp at e2
        subst e2
        refine ⟨_, _, ?_, hR2, ?_, fun x e => by have := (own_lt HOW.out x e).1; omega, hK2⟩
        · rw [HC0.out]; rfl
        · have h1 := (Sl.of_owns HOW.out).1
          rw [HN.out] at h1
          unfold StrsAt
          rw [HN.out]
          exact Sl.keep h1 kA9 (fun x _ e h => by rw [← HN.out] at e; have := (own_lt HOW.out x e).1; omega)
  · have hcz : (s.code == 0) = false := by simpa using hc
    have hls : s.listed nm.data.toList = [] := by unfold OS.listed; rw [if_neg hc]
    have HLS := Lib.hid hls
    clear hls hc
    go_wp2_with (first | (refine wpList_store_box rfl 35 (.tmp 2) (.tmp 13) rfl (w.heap.size) #[.slice ra1 rn1 rc1, .int .i64 q, .int .i64 o, .int .i64 l, .slice fa1 fn1 fc1] (by rfl) (by rfl) HA1.out (by kernel_rfl) rfl (five_one _ _ _ _ _ _ _ _ _) ?_; intro W2 hA2 kA2; have J := MK.out W2 kA2 hA2 (kA2.heap HB1.out (by omega)) (K1.out.trans' kA2 (fun _ _ e => e) (fun i hi e => by omega)); obtain ⟨⟨a0, a1, a2, a3, a4⟩, af⟩ := five_cells hA2; have HJ := Lib.hid J; clear J hA2 kA2) | (refine wpList_store_box rfl 35 (.tmp 4) (.tmp 17) rfl (w.heap.size + 1) #[.slice ra1 rn1 rc1, .int .i64 q, .int .i64 o, .int .i64 l, .slice fa1 fn1 fc1] (by rfl) (by rfl) HJ.out.b (by kernel_rfl) rfl (five_one _ _ _ _ _ _ _ _ _) ?_; intro W9 hA9 kA9))
    refine bodyPost_ret (results_cell_tmp2 _ _ _ _ _ _ _ (by rfl) hA9 Try.underlying35 rfl (by kernel_rfl) rfl) rfl ?_
    obtain ⟨v2, e2, hR2, hK2⟩ := HJ.out.fin HRS.out kA9 s.code
    simp at e2
    subst e2
    exact ⟨_, _, rfl, hR2, by rw [HLS.out]; exact Sl.nil _ _, fun x e => by simp [vblk] at e, hK2⟩
end Go.Proofs.Ytgnigkghkldcfaa
