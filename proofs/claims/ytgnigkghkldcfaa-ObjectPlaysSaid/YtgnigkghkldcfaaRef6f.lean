/-
  coldstoreref06: Drop, Get. (Printed by wip/gen/ref6rest.py.)
-/
import Derived.Test.YtgnigkghkldcfaaRef6e
import Derived.Deep.RegionHeld3
namespace Go.Proofs.Ytgnigkghkldcfaa
open Go.RowKit Go.Proofs Go.Lib

/-- what Drop comes to -/
def DropRef (RS : Nat → Prop) (s : OS) (nm : Bs) (w : World) (e : Ending) (w' : World) : Prop :=
  ∃ v', e = .returned (.tuple #[v', .int .i64 (s.getCode nm)]) ∧ Rf w' v' (fun x => RS x ∨ (w.heap.size ≤ x ∧ x < w'.heap.size)) (s.drop nm) ∧ Keep (fun _ => False) w w'
theorem dropRef_no {RS : Nat → Prop} {s : OS} {nm : Bs} {w w' : World} {e : Ending} {c : Int} (h : PutRefNo RS s.op c w e w') (hc : s.getCode nm = c) (h0 : c ≠ 0) : DropRef RS s nm w e w' := by
  obtain ⟨v', h1, h2, h3⟩ := h
  refine ⟨v', by rw [hc]; exact h1, ?_, h3⟩
  unfold OS.drop
  rw [if_neg (by rw [hc]; exact h0)]
  exact h2.mono (fun _ => .inl)

set_option maxRecDepth 100000 in
set_option maxHeartbeats 8000000 in
theorem r6drop_any {w : World} {v : Value} {RS : Nat → Prop} {s : OS} (h : Rf w v RS s) (hRS : ∀ b, RS b → b < w.heap.size) (hl : s.left ≠ 0) (hl1 : -1 ≤ s.left ∧ s.left ≤ 9223372036854775807) (ho : s.ops < 4611686018427387904) (hok : s.Ok) (nm : ByteArray) :
    Calls Try.prog 66 #[v, .string nm] w (DropRef RS s nm.data.toList w) := by
  obtain ⟨rv, fv, L, rfl, h⟩ := h
  obtain ⟨ra, rn, rc, rfl⟩ : ∃ a n c, rv = .slice a n c := let ⟨_, a, c, e, _⟩ := h.rows.row; ⟨a, _, c, e⟩
  obtain ⟨fa, fn, fc, rfl⟩ : ∃ a n c, fv = .slice a n c := let ⟨_, a, c, e, _⟩ := h.faults; ⟨a, _, c, e⟩
  have H := Lib.hid (show Rf w (refV (.slice ra rn rc) (.slice fa fn fc) s) RS s from ⟨_, _, L, rfl, h⟩)
  clear h
  have k2 : Keep (fun _ => False) w ((w.alloc (.cells #[.slice ra rn rc, .int .i64 s.quota, .int .i64 s.ops, .int .i64 s.left, .slice fa fn fc] 35)).alloc (.cells #[.slice none 0 0, .int .i64 0, .int .i64 0, .int .i64 0, .slice none 0 0] 35)) := ((Keep.refl _ _).alloc _).alloc _
  have hA : ((w.alloc (.cells #[.slice ra rn rc, .int .i64 s.quota, .int .i64 s.ops, .int .i64 s.left, .slice fa fn fc] 35)).alloc (.cells #[.slice none 0 0, .int .i64 0, .int .i64 0, .int .i64 0, .slice none 0 0] 35)).heap[w.heap.size]? = some (.cells #[.slice ra rn rc, .int .i64 s.quota, .int .i64 s.ops, .int .i64 s.left, .slice fa fn fc] 35 (0, 0)) := alloc_blk (alloc_new _ _) _
  have hB : ((w.alloc (.cells #[.slice ra rn rc, .int .i64 s.quota, .int .i64 s.ops, .int .i64 s.left, .slice fa fn fc] 35)).alloc (.cells #[.slice none 0 0, .int .i64 0, .int .i64 0, .int .i64 0, .slice none 0 0] 35)).heap[w.heap.size + 1]? = some (.cells #[.slice none 0 0, .int .i64 0, .int .i64 0, .int .i64 0, .slice none 0 0] 35 (0, 0)) := by
    have := alloc_new (w.alloc (.cells #[.slice ra rn rc, .int .i64 s.quota, .int .i64 s.ops, .int .i64 s.left, .slice fa fn fc] 35)) (.cells #[.slice none 0 0, .int .i64 0, .int .i64 0, .int .i64 0, .slice none 0 0] 35)
    rw [World.size_alloc] at this
    exact this
  have K2 := Lib.hid k2; have HA := Lib.hid hA; have HB := Lib.hid hB; have HRS := Lib.hid hRS
  clear k2 hA hB hRS
  unfold refV
  go_enter Try.func66, Try.ntmps66
  go_wp2_with fail
  refine (r6op_any (H.out.keep0 K2.out) hl hl1 ⟨hok.ops.1, ho⟩).mono ?_
  rintro e w1 ⟨v1, rfl, hR1, k1⟩
  have hA1 := k1.heap HA.out id
  have hB1 := k1.heap HB.out id
  have K1 := Lib.hid (K2.out.trans k1)
  obtain ⟨ra1, rn1, rc1, fa1, fn1, fc1, q, o, l, L1, rfl, hq, mk⟩ := rboxes_of (w := w) HRS.out hR1
  have HA1 := Lib.hid hA1; have HB1 := Lib.hid hB1; have MK := Lib.hid mk
  clear hA1 hB1 mk hq k1 hR1
  by_cases hc : s.code = 0
  · have hgc : s.getCode nm.data.toList = if (lk s.row nm.data.toList).isNone then 4 else 0 := by unfold OS.getCode; rw [if_neg (by rw [hc]; decide)]
    have hri : Rising s.row := hok.rising
    have HG := Lib.hid hgc; have HRI := Lib.hid hri
    rw [hc]
    clear hgc hri hc
    go_wp2_with (refine wpList_store_box rfl 35 (.tmp 2) (.tmp 12) rfl (w.heap.size) #[.slice ra1 rn1 rc1, .int .i64 q, .int .i64 o, .int .i64 l, .slice fa1 fn1 fc1] (by rfl) (by rfl) HA1.out (by kernel_rfl) rfl (five_one _ _ _ _ _ _ _ _ _) ?_; intro W2 hA2 kA2; have J := MK.out W2 kA2 hA2 (kA2.heap HB1.out (by omega)) (K1.out.trans' kA2 (fun _ _ e => e) (fun i hi e => by omega)); obtain ⟨⟨a0, a1, a2, a3, a4⟩, af⟩ := five_cells hA2; have HJ := Lib.hid J; clear J hA2 kA2)
    have hRf : Rf W2 (.agg #[.slice ra1 rn1 rc1, .int .i64 q, .int .i64 o, .int .i64 l, .slice fa1 fn1 fc1]) RS s.op := by rw [← HJ.out.v]; exact ⟨_, _, _, rfl, HJ.out.r⟩
    refine (r6find_any hRf (show Rising s.op.row from HRI.out) nm).mono ?_
    rintro e W4 ⟨rfl, k4⟩
    obtain ⟨P, hP⟩ : ∃ P, P = posK s.row nm.data.toList := ⟨_, rfl⟩
    have eP : posK s.op.row nm.data.toList = P := hP.symm
    rw [eP]
    have HP := Lib.hid hP
    clear hP eP
    obtain ⟨T, hT⟩ : ∃ T, T = (lk s.row nm.data.toList).isSome := ⟨_, rfl⟩
    have eT : (lk s.op.row nm.data.toList).isSome = T := hT.symm
    rw [eT]
    have HT := Lib.hid hT
    have J4 := HJ.out.still k4
    obtain ⟨⟨a0, a1, a2, a3, a4⟩, af⟩ := five_cells J4.a
    have HJ4 := Lib.hid J4
    clear hT eT hRf k4 HJ J4
    cases hlk : lk s.row nm.data.toList with
    | none =>
      rw [hlk] at HG HT
      obtain rfl : T = false := HT.out
      have HG4 := Lib.hid (show s.getCode nm.data.toList = 4 from HG.out)
      clear hlk HG
      go_wp2_with (refine wpList_store_box rfl 35 (.tmp 4) (.tmp 26) rfl (w.heap.size + 1) #[.slice ra1 rn1 rc1, .int .i64 q, .int .i64 o, .int .i64 l, .slice fa1 fn1 fc1] (by rfl) (by rfl) HJ4.out.b (by kernel_rfl) rfl (five_one _ _ _ _ _ _ _ _ _) ?_; intro W9 hA9 kA9)
      refine bodyPost_ret (results_cell_tmp1 _ _ _ _ _ _ _ (by rfl) hA9 Try.underlying35 rfl (by kernel_rfl) rfl) rfl ?_
      exact dropRef_no (HJ4.out.fin HRS.out kA9 4) HG4.out (by decide)
    | some l0 =>
      rw [hlk] at HG HT
      obtain rfl : T = true := HT.out
      have HG0 := Lib.hid (show s.getCode nm.data.toList = 0 from HG.out)
      have hpos := posK_some HRI.out hlk
      rw [← HP.out] at hpos
      obtain ⟨p, hp, hp1⟩ : ∃ p, L1[P]? = some p ∧ p.1 = (nm.data.toList, l0) := by
        have h1 : (L1.map (·.1))[P]? = some (nm.data.toList, l0) := by rw [show L1.map (·.1) = s.row from HJ4.out.r.is]; exact hpos
        rw [List.getElem?_map] at h1
        cases h : L1[P]? with
        | none => rw [h] at h1; cases h1
        | some p => rw [h] at h1; exact ⟨p, rfl, by simpa using h1⟩
      have hPlt : P < L1.length := (List.getElem?_eq_some_iff.1 hp).1
      have hmany : L1.length ≤ 4096 := by have h1 := hok.many; rw [← show L1.map (·.1) = s.row from HJ4.out.r.is, List.length_map] at h1; exact h1
      have HW := r6without_any HJ4.out.r P hPlt hmany
      rw [HJ4.out.v] at HW
      have hdl : (L1.take P ++ L1.drop (P + 1)).map (·.1) = delK nm.data.toList s.row := by
        rw [List.map_append, List.map_take, List.map_drop, show L1.map (·.1) = s.row from HJ4.out.r.is, HP.out]
        exact eraseIdx_pos HRI.out hlk
      have HDL := Lib.hid hdl; have HWW := Lib.hid HW
      clear hdl hlk hpos hp hp1 HW HG hPlt hmany
      go_wp2_with fail
      refine HWW.out.mono ?_
      rintro e W6 ⟨rv6, rfl, hsh6, hT6, hb6, k6⟩
      obtain ⟨g6, n6, c6, rfl⟩ : ∃ a n c, rv6 = .slice a n c := let ⟨_, a, c, e, _⟩ := hT6.row; ⟨a, _, c, e⟩
      have ev6 : refV (.slice g6 n6 c6) (.slice fa1 fn1 fc1) s.op = .agg #[.slice g6 n6 c6, .int .i64 q, .int .i64 o, .int .i64 l, .slice fa1 fn1 fc1] := by
        obtain ⟨h1, h2, h3⟩ := refV_inj HJ4.out.v
        unfold refV; rw [h1, h2, h3]
      rw [ev6]
      have J6 := HJ4.out.still k6
      have HJ6 := Lib.hid J6
      have fin : ∀ W9, Keep (· = w.heap.size + 1) W6 W9 → DropRef RS s nm.data.toList w (.returned (.tuple #[.agg #[.slice g6 n6 c6, .int .i64 q, .int .i64 o, .int .i64 l, .slice fa1 fn1 fc1], .int .i64 0])) W9 := by
        intro W9 k9
        have hmem : ∀ p ∈ L1.take P ++ L1.drop (P + 1), p ∈ L1 := fun p hp => (List.mem_append.1 hp).elim List.mem_of_mem_take List.mem_of_mem_drop
        have hkX : Keep (fun _ => False) w W9 := J6.keep.trans' k9 (fun _ _ e => e) (fun i hi e => by omega)
        have hd : s.drop nm.data.toList = { s.op with row := delK nm.data.toList s.row } := by unfold OS.drop; rw [if_pos HG0.out]
        have hz4 := HJ4.out.keep.size
        have hzb := lt_blk HJ4.out.b
        refine ⟨_, by rw [HG0.out], ⟨.slice g6 n6 c6, .slice fa1 fn1 fc1, L1.take P ++ L1.drop (P + 1), ?_, ⟨⟨?_, ?_⟩, ?_, hsh6, ?_, ?_, ?_, ?_⟩⟩, hkX⟩
        · rw [hd, ← ev6]; rfl
        · exact Sl.keep hT6.row k9 (fun x _ e h => by have := hb6 x e; omega)
        · exact fun p hp => Sl.keep (hT6.bytes p hp) k9 (fun x hn e h => by have := HRS.out x (HJ4.out.r.bb p (hmem p hp) x hn e); omega)
        · rw [hd]; exact HDL.out
        · rw [hd]; exact Sl.keep J6.r.faults k9 (fun x hn e h => by have := HRS.out x (HJ4.out.r.fb x hn e); omega)
        · intro x hn e
          have h1 := hb6 x e
          have h2 := Sl.lt hT6.row (by decide) hn e
          exact .inr ⟨by omega, Nat.lt_of_lt_of_le h2 k9.size⟩
        · exact fun p hp x h1 h2 => .inl (HJ4.out.r.bb p (hmem p hp) x h1 h2)
        · rw [hd]; exact fun x h1 h2 => .inl (HJ4.out.r.fb x h1 h2)
      have HFIN := Lib.hid fin
      clear fin hT6 hb6 k6 ev6 J6 hsh6 a0 a1 a2 a3 a4 af
      go_wp2_with (refine wpList_store_box rfl 35 (.tmp 4) (.tmp 29) rfl (w.heap.size + 1) #[.slice g6 n6 c6, .int .i64 q, .int .i64 o, .int .i64 l, .slice fa1 fn1 fc1] (by rfl) (by rfl) HJ6.out.b (by kernel_rfl) rfl (five_one _ _ _ _ _ _ _ _ _) ?_; intro W9 hA9 kA9)
      refine bodyPost_ret (results_cell_tmp1 _ _ _ _ _ _ _ (by rfl) hA9 Try.underlying35 rfl (by kernel_rfl) rfl) rfl ?_
      exact HFIN.out _ kA9
  · have hcz : (s.code == 0) = false := by simpa using hc
    have hgc : s.getCode nm.data.toList = s.code := by unfold OS.getCode; rw [if_pos hc]
    have HG := Lib.hid hgc; have HC := Lib.hid hc
    clear hgc hc
    go_wp2_with (first | (refine wpList_store_box rfl 35 (.tmp 2) (.tmp 12) rfl (w.heap.size) #[.slice ra1 rn1 rc1, .int .i64 q, .int .i64 o, .int .i64 l, .slice fa1 fn1 fc1] (by rfl) (by rfl) HA1.out (by kernel_rfl) rfl (five_one _ _ _ _ _ _ _ _ _) ?_; intro W2 hA2 kA2; have J := MK.out W2 kA2 hA2 (kA2.heap HB1.out (by omega)) (K1.out.trans' kA2 (fun _ _ e => e) (fun i hi e => by omega)); obtain ⟨⟨a0, a1, a2, a3, a4⟩, af⟩ := five_cells hA2; have HJ := Lib.hid J; clear J hA2 kA2) | (refine wpList_store_box rfl 35 (.tmp 4) (.tmp 16) rfl (w.heap.size + 1) #[.slice ra1 rn1 rc1, .int .i64 q, .int .i64 o, .int .i64 l, .slice fa1 fn1 fc1] (by rfl) (by rfl) HJ.out.b (by kernel_rfl) rfl (five_one _ _ _ _ _ _ _ _ _) ?_; intro W9 hA9 kA9))
    refine bodyPost_ret (results_cell_tmp1 _ _ _ _ _ _ _ (by rfl) hA9 Try.underlying35 rfl (by kernel_rfl) rfl) rfl ?_
    exact dropRef_no (HJ.out.fin HRS.out kA9 _) HG.out HC.out

/-- what Get comes to -/
def GetRef (RS : Nat → Prop) (s : OS) (nm : Bs) (w : World) (e : Ending) (w' : World) : Prop :=
  ∃ v' bv, e = .returned (.tuple #[v', bv, .int .i64 (s.getCode nm)]) ∧ Rf w' v' RS s.op ∧ BytesAt w' bv (s.getBytes nm) ∧ (∀ x, 0 < (s.getBytes nm).length → vblk bv = some x → RS x) ∧ Keep (fun _ => False) w w'
theorem getRef_no {RS : Nat → Prop} {s : OS} {nm : Bs} {w w' : World} {v' : Value} {c : Int} (h : PutRefNo RS s.op c w (.returned (.tuple #[v', .int .i64 c])) w') (hc : s.getCode nm = c) (hb : s.getBytes nm = []) : GetRef RS s nm w (.returned (.tuple #[v', .slice none 0 0, .int .i64 c])) w' := by
  obtain ⟨v2, h1, h2, h3⟩ := h
  simp at h1
  subst h1
  exact ⟨_, _, by rw [hc], h2, by rw [hb]; exact Sl.nil _ _, by rw [hb]; exact fun x h => absurd h (Nat.lt_irrefl _), h3⟩

set_option maxRecDepth 100000 in
set_option maxHeartbeats 8000000 in
theorem r6get_any {w : World} {v : Value} {RS : Nat → Prop} {s : OS} (h : Rf w v RS s) (hRS : ∀ b, RS b → b < w.heap.size) (hl : s.left ≠ 0) (hl1 : -1 ≤ s.left ∧ s.left ≤ 9223372036854775807) (ho : s.ops < 4611686018427387904) (hok : s.Ok) (nm : ByteArray) :
    Calls Try.prog 65 #[v, .string nm] w (GetRef RS s nm.data.toList w) := by
  obtain ⟨rv, fv, L, rfl, h⟩ := h
  obtain ⟨ra, rn, rc, rfl⟩ : ∃ a n c, rv = .slice a n c := let ⟨_, a, c, e, _⟩ := h.rows.row; ⟨a, _, c, e⟩
  obtain ⟨fa, fn, fc, rfl⟩ : ∃ a n c, fv = .slice a n c := let ⟨_, a, c, e, _⟩ := h.faults; ⟨a, _, c, e⟩
  have H := Lib.hid (show Rf w (refV (.slice ra rn rc) (.slice fa fn fc) s) RS s from ⟨_, _, L, rfl, h⟩)
  clear h
  have k2 : Keep (fun _ => False) w ((w.alloc (.cells #[.slice ra rn rc, .int .i64 s.quota, .int .i64 s.ops, .int .i64 s.left, .slice fa fn fc] 35)).alloc (.cells #[.slice none 0 0, .int .i64 0, .int .i64 0, .int .i64 0, .slice none 0 0] 35)) := ((Keep.refl _ _).alloc _).alloc _
  have hA : ((w.alloc (.cells #[.slice ra rn rc, .int .i64 s.quota, .int .i64 s.ops, .int .i64 s.left, .slice fa fn fc] 35)).alloc (.cells #[.slice none 0 0, .int .i64 0, .int .i64 0, .int .i64 0, .slice none 0 0] 35)).heap[w.heap.size]? = some (.cells #[.slice ra rn rc, .int .i64 s.quota, .int .i64 s.ops, .int .i64 s.left, .slice fa fn fc] 35 (0, 0)) := alloc_blk (alloc_new _ _) _
  have hB : ((w.alloc (.cells #[.slice ra rn rc, .int .i64 s.quota, .int .i64 s.ops, .int .i64 s.left, .slice fa fn fc] 35)).alloc (.cells #[.slice none 0 0, .int .i64 0, .int .i64 0, .int .i64 0, .slice none 0 0] 35)).heap[w.heap.size + 1]? = some (.cells #[.slice none 0 0, .int .i64 0, .int .i64 0, .int .i64 0, .slice none 0 0] 35 (0, 0)) := by
    have := alloc_new (w.alloc (.cells #[.slice ra rn rc, .int .i64 s.quota, .int .i64 s.ops, .int .i64 s.left, .slice fa fn fc] 35)) (.cells #[.slice none 0 0, .int .i64 0, .int .i64 0, .int .i64 0, .slice none 0 0] 35)
    rw [World.size_alloc] at this
    exact this
  have K2 := Lib.hid k2; have HA := Lib.hid hA; have HB := Lib.hid hB; have HRS := Lib.hid hRS
  clear k2 hA hB hRS
  unfold refV
  go_enter Try.func65, Try.ntmps65
  go_wp2_with fail
  refine (r6op_any (H.out.keep0 K2.out) hl hl1 ⟨hok.ops.1, ho⟩).mono ?_
  rintro e w1 ⟨v1, rfl, hR1, k1⟩
  have hA1 := k1.heap HA.out id
  have hB1 := k1.heap HB.out id
  have K1 := Lib.hid (K2.out.trans k1)
  obtain ⟨ra1, rn1, rc1, fa1, fn1, fc1, q, o, l, L1, rfl, hq, mk⟩ := rboxes_of (w := w) HRS.out hR1
  have HA1 := Lib.hid hA1; have HB1 := Lib.hid hB1; have MK := Lib.hid mk
  clear hA1 hB1 mk hq k1 hR1
  by_cases hc : s.code = 0
  · have hgc : s.getCode nm.data.toList = if (lk s.row nm.data.toList).isNone then 4 else 0 := by unfold OS.getCode; rw [if_neg (by rw [hc]; decide)]
    have hgb : s.getBytes nm.data.toList = (lk s.row nm.data.toList).getD [] := by unfold OS.getBytes; rw [if_neg (by rw [hc]; decide)]
    have hri : Rising s.row := hok.rising
    have HG := Lib.hid hgc; have HGB := Lib.hid hgb; have HRI := Lib.hid hri
    rw [hc]
    clear hgc hgb hri hc
    go_wp2_with (refine wpList_store_box rfl 35 (.tmp 2) (.tmp 13) rfl (w.heap.size) #[.slice ra1 rn1 rc1, .int .i64 q, .int .i64 o, .int .i64 l, .slice fa1 fn1 fc1] (by rfl) (by rfl) HA1.out (by kernel_rfl) rfl (five_one _ _ _ _ _ _ _ _ _) ?_; intro W2 hA2 kA2; have J := MK.out W2 kA2 hA2 (kA2.heap HB1.out (by omega)) (K1.out.trans' kA2 (fun _ _ e => e) (fun i hi e => by omega)); obtain ⟨⟨a0, a1, a2, a3, a4⟩, af⟩ := five_cells hA2; have HJ := Lib.hid J; clear J hA2 kA2)
    have hRf : Rf W2 (.agg #[.slice ra1 rn1 rc1, .int .i64 q, .int .i64 o, .int .i64 l, .slice fa1 fn1 fc1]) RS s.op := by rw [← HJ.out.v]; exact ⟨_, _, _, rfl, HJ.out.r⟩
    refine (r6find_any hRf (show Rising s.op.row from HRI.out) nm).mono ?_
    rintro e W4 ⟨rfl, k4⟩
    obtain ⟨P, hP⟩ : ∃ P, P = posK s.row nm.data.toList := ⟨_, rfl⟩
    have eP : posK s.op.row nm.data.toList = P := hP.symm
    rw [eP]
    have HP := Lib.hid hP
    clear hP eP
    obtain ⟨T, hT⟩ : ∃ T, T = (lk s.row nm.data.toList).isSome := ⟨_, rfl⟩
    have eT : (lk s.op.row nm.data.toList).isSome = T := hT.symm
    rw [eT]
    have HT := Lib.hid hT
    have J4 := HJ.out.still k4
    obtain ⟨⟨a0, a1, a2, a3, a4⟩, af⟩ := five_cells J4.a
    have HJ4 := Lib.hid J4
    clear hT eT hRf k4 HJ J4
    cases hlk : lk s.row nm.data.toList with
    | none =>
      rw [hlk] at HG HT HGB
      obtain rfl : T = false := HT.out
      have HG4 := Lib.hid (show s.getCode nm.data.toList = 4 from HG.out); have HB4 := Lib.hid (show s.getBytes nm.data.toList = [] from HGB.out)
      clear hlk HG HGB
      go_wp2_with (refine wpList_store_box rfl 35 (.tmp 4) (.tmp 27) rfl (w.heap.size + 1) #[.slice ra1 rn1 rc1, .int .i64 q, .int .i64 o, .int .i64 l, .slice fa1 fn1 fc1] (by rfl) (by rfl) HJ4.out.b (by kernel_rfl) rfl (five_one _ _ _ _ _ _ _ _ _) ?_; intro W9 hA9 kA9)
      refine bodyPost_ret (results_cell_tmp2 _ _ _ _ _ _ _ (by rfl) hA9 Try.underlying35 rfl (by kernel_rfl) rfl) rfl ?_
      exact getRef_no (HJ4.out.fin HRS.out kA9 4) HG4.out HB4.out
    | some l0 =>
      rw [hlk] at HG HT HGB
      obtain rfl : T = true := HT.out
      have HG0 := Lib.hid (show s.getCode nm.data.toList = 0 from HG.out); have HB0 := Lib.hid (show s.getBytes nm.data.toList = l0 from HGB.out)
      have hpos := posK_some HRI.out hlk
      rw [← HP.out] at hpos
      obtain ⟨p, hp, hp1⟩ : ∃ p, L1[P]? = some p ∧ p.1 = (nm.data.toList, l0) := by
        have h1 : (L1.map (·.1))[P]? = some (nm.data.toList, l0) := by rw [show L1.map (·.1) = s.row from HJ4.out.r.is]; exact hpos
        rw [List.getElem?_map] at h1
        cases h : L1[P]? with
        | none => rw [h] at h1; cases h1
        | some p => rw [h] at h1; exact ⟨p, rfl, by simpa using h1⟩
      have hPlt : P < rn1 := by rw [HJ4.out.n]; exact (List.getElem?_eq_some_iff.1 hp).1
      have hrr : Sl W4 2 (.slice ra1 rn1 rc1) rn1 (L1.flatMap thCells) := by have := HJ4.out.r.rows.row; rw [← HJ4.out.n] at this; exact this
      obtain ⟨rb, ro, rc', ev, r1, r2⟩ := Sl.base hrr (by omega)
      cases ev
      obtain ⟨_, t1⟩ := HJ4.out.r.rows.cells hp
      have hpb := HJ4.out.r.rows.bytes p (List.mem_of_getElem? hp)
      have hpr := HJ4.out.r.bb p (List.mem_of_getElem? hp)
      obtain ⟨⟨nk, bs⟩, bv⟩ := p
      cases hp1
      obtain ⟨la, lc, rfl⟩ : ∃ a c, bv = .slice a l0.length c := let ⟨_, a, c, e, _⟩ := hpb; ⟨a, c, e⟩
      dsimp only at t1 hpb hpr
      have i1 : (0 : Int) ≤ P := by omega
      have i2 : (P : Int) < rn1 := by omega
      unfold maxLen at r2
      obtain ⟨ln, hln⟩ : ∃ ln, ln = l0.length := ⟨_, rfl⟩
      rw [← hln] at t1
      have HPB := Lib.hid hpb; have HPR := Lib.hid hpr; have HLN := Lib.hid hln
      clear hlk hpos hp hrr hln hpb hpr HG HGB
      obtain ⟨⟨z0, z1, z2, z3, z4⟩, zf⟩ := five_cells HJ4.out.b
      go_wp2_with fail
      have zf0 := zf 0; have zf1 := zf 1; have zf2 := zf 2; have zf3 := zf 3; have zf4 := zf 4
      have hrbl : rb < w.heap.size := HRS.out rb (HJ4.out.r.rb rb (by rw [← HJ4.out.n]; omega) rfl)
      have hAne : ¬ w.heap.size + 1 = rb := by omega
      go_region_held3 (fun w' => w'.cell? ⟨w.heap.size, 0, none⟩ = some (.slice (some ⟨rb, ro, none⟩) rn1 rc1) ∧ w'.cell? ⟨w.heap.size, 1, none⟩ = some (.int .i64 q) ∧ w'.cell? ⟨w.heap.size, 2, none⟩ = some (.int .i64 o) ∧ w'.cell? ⟨w.heap.size, 3, none⟩ = some (.int .i64 l) ∧ w'.cell? ⟨w.heap.size, 4, none⟩ = some (.slice fa1 fn1 fc1) ∧ w'.cell? ⟨rb, ro + P * 2 + 1, none⟩ = some (.slice la ln lc)) (go_keep) (fail)
      have hb9 := drew_blk (set_five HJ4.out.b (.slice (some ⟨rb, ro, none⟩) rn1 rc1) (.int .i64 q) (.int .i64 o) (.int .i64 l) (.slice fa1 fn1 fc1))
      have kk : Keep (· = w.heap.size + 1) W4 (((((W4.setCell ⟨w.heap.size + 1, 0, none⟩ (.slice (some ⟨rb, ro, none⟩) rn1 rc1)).setCell ⟨w.heap.size + 1, 1, none⟩ (.int .i64 q)).setCell ⟨w.heap.size + 1, 2, none⟩ (.int .i64 o)).setCell ⟨w.heap.size + 1, 3, none⟩ (.int .i64 l)).setCell ⟨w.heap.size + 1, 4, none⟩ (.slice fa1 fn1 fc1)).drew := (set_five_keep (F := (· = w.heap.size + 1)) (Keep.refl _ W4) rfl _ _ _ _ _).drew
      have fin : GetRef RS s nm.data.toList w (.returned (.tuple #[.agg #[.slice (some ⟨rb, ro, none⟩) rn1 rc1, .int .i64 q, .int .i64 o, .int .i64 l, .slice fa1 fn1 fc1], .slice la ln lc, .int .i64 0])) (((((W4.setCell ⟨w.heap.size + 1, 0, none⟩ (.slice (some ⟨rb, ro, none⟩) rn1 rc1)).setCell ⟨w.heap.size + 1, 1, none⟩ (.int .i64 q)).setCell ⟨w.heap.size + 1, 2, none⟩ (.int .i64 o)).setCell ⟨w.heap.size + 1, 3, none⟩ (.int .i64 l)).setCell ⟨w.heap.size + 1, 4, none⟩ (.slice fa1 fn1 fc1)).drew := by
        obtain ⟨v2, e2, hR2, hK2⟩ := HJ4.out.fin HRS.out kk 0
        simp only [Ending.returned.injEq, Value.tuple.injEq] at e2
        have e3 : v2 = .agg #[.slice (some ⟨rb, ro, none⟩) rn1 rc1, .int .i64 q, .int .i64 o, .int .i64 l, .slice fa1 fn1 fc1] := by simp at e2; exact e2.symm
        subst e3
        refine ⟨_, _, by rw [HG0.out], hR2, ?_, ?_, hK2⟩
        · rw [HB0.out, HLN.out]
          exact Sl.keep HPB.out kk (fun x hn e h => by have := HRS.out x (HPR.out x hn e); omega)
        · rw [HB0.out, HLN.out]; exact HPR.out
      have HFIN := Lib.hid fin; have HB9 := Lib.hid hb9
      clear fin hb9 kk
      go_wp2
      refine bodyPost_ret (results_cell_tmp2 _ _ _ _ _ _ _ (by rfl) HB9.out Try.underlying35 rfl (by kernel_rfl) rfl) rfl ?_
      exact HFIN.out
  · have hcz : (s.code == 0) = false := by simpa using hc
    have hgc : s.getCode nm.data.toList = s.code := by unfold OS.getCode; rw [if_pos hc]
    have hgb : s.getBytes nm.data.toList = [] := by unfold OS.getBytes; rw [if_pos hc]
    have HG := Lib.hid hgc; have HGB := Lib.hid hgb
    clear hgc hgb hc
    go_wp2_with (first | (refine wpList_store_box rfl 35 (.tmp 2) (.tmp 13) rfl (w.heap.size) #[.slice ra1 rn1 rc1, .int .i64 q, .int .i64 o, .int .i64 l, .slice fa1 fn1 fc1] (by rfl) (by rfl) HA1.out (by kernel_rfl) rfl (five_one _ _ _ _ _ _ _ _ _) ?_; intro W2 hA2 kA2; have J := MK.out W2 kA2 hA2 (kA2.heap HB1.out (by omega)) (K1.out.trans' kA2 (fun _ _ e => e) (fun i hi e => by omega)); obtain ⟨⟨a0, a1, a2, a3, a4⟩, af⟩ := five_cells hA2; have HJ := Lib.hid J; clear J hA2 kA2) | (refine wpList_store_box rfl 35 (.tmp 4) (.tmp 17) rfl (w.heap.size + 1) #[.slice ra1 rn1 rc1, .int .i64 q, .int .i64 o, .int .i64 l, .slice fa1 fn1 fc1] (by rfl) (by rfl) HJ.out.b (by kernel_rfl) rfl (five_one _ _ _ _ _ _ _ _ _) ?_; intro W9 hA9 kA9))
    refine bodyPost_ret (results_cell_tmp2 _ _ _ _ _ _ _ (by rfl) hA9 Try.underlying35 rfl (by kernel_rfl) rfl) rfl ?_
    exact getRef_no (HJ.out.fin HRS.out kA9 _) HG.out HGB.out
end Go.Proofs.Ytgnigkghkldcfaa
