/-
  coldstoreref06: Size, Right, Find.
-/
import Derived.Test.YtgnigkghkldcfaaRef6
import Derived.Test.YtgnigkghkldcfaaPosLaw
import Derived.WalkLawsBesides
namespace Go.Proofs.Ytgnigkghkldcfaa
open Go.RowKit Go.Proofs Go.Lib

theorem flat_th {L : List ((Bs × Bs) × Value)} {k : Nat} {p : (Bs × Bs) × Value} (h : L[k]? = some p) : (L.flatMap thCells)[k * 2]? = some (strV p.1.1) ∧ (L.flatMap thCells)[k * 2 + 1]? = some p.2 := by
  induction L generalizing k with
  | nil => simp at h
  | cons a r ih =>
    cases k with
    | zero => simp at h; subst h; simp [thCells]
    | succ k =>
      simp only [List.getElem?_cons_succ] at h
      have := ih h
      rw [show (k + 1) * 2 = k * 2 + 2 from by omega]
      simpa [thCells, Nat.add_assoc] using this
theorem flat_th_length (L : List ((Bs × Bs) × Value)) : (L.flatMap thCells).length = L.length * 2 := by
  induction L with
  | nil => rfl
  | cons a r ih => simp [thCells, ih]; omega

/-- the cells of thing k -/
theorem ThAt.cells {w : World} {b o n c : Nat} {L : List ((Bs × Bs) × Value)} (h : ThAt w (.slice (some ⟨b, o, none⟩) n c) L) {k : Nat} {p : (Bs × Bs) × Value} (hp : L[k]? = some p) :
    w.cell? ⟨b, o + k * 2, none⟩ = some (strV p.1.1) ∧ w.cell? ⟨b, o + k * 2 + 1, none⟩ = some p.2 := by
  obtain ⟨h1, a, c', e, _, _, _, h6⟩ := h.row
  simp only [Value.slice.injEq] at e
  obtain ⟨rfl, _, rfl⟩ := e
  have hk : k < L.length := (List.getElem?_eq_some_iff.1 hp).1
  obtain ⟨b', o', e2, h7⟩ := h6 (by omega)
  cases e2
  obtain ⟨f0, f1⟩ := flat_th hp
  refine ⟨?_, ?_⟩
  · rw [h7 _ (by omega), f0]
  · rw [Nat.add_assoc, h7 _ (by omega), f1]

theorem sizeR_snoc (l : List (Bs × Bs)) (e : Bs × Bs) : sizeR (l ++ [e]) = sizeR l + e.2.length := by
  induction l with
  | nil => simp [sizeR]
  | cons x r ih => rw [List.cons_append, sizeR_cons, sizeR_cons, ih]; omega
theorem sizeR_take_le (l : List (Bs × Bs)) (k : Nat) : sizeR (l.take k) ≤ sizeR l := by
  induction l generalizing k with
  | nil => simp
  | cons x r ih =>
    cases k with
    | zero => simp [sizeR]
    | succ k => rw [List.take_succ_cons, sizeR_cons, sizeR_cons]; have := ih k; omega

set_option maxRecDepth 100000 in
set_option maxHeartbeats 2000000 in
theorem r6size_any {w : World} {v : Value} {RS : Nat → Prop} {s : OS} (h : Rf w v RS s) (hz : (sizeR s.row : Int) ≤ 9223372036854775807) :
    Calls Try.prog 68 #[v] w fun e w' => e = .returned (.int .i64 (sizeR s.row)) ∧ Keep (fun _ => False) w w' := by
  obtain ⟨rv, fv, L, rfl, h⟩ := h
  obtain ⟨ra, rn, rc, rfl⟩ : ∃ a n c, rv = .slice a n c := let ⟨_, a, c, e, _⟩ := h.rows.row; ⟨a, _, c, e⟩
  have hrn : rn = L.length := by obtain ⟨_, a, c, e, _⟩ := h.rows.row; cases e; rfl
  unfold refV
  obtain ⟨row, quota, ops, left, faults⟩ := s
  dsimp only at hz ⊢
  have his : L.map (·.1) = row := h.is
  have hrl : row.length = rn := by rw [hrn, ← his, List.length_map]
  have hm : rn ≤ maxLen := by obtain ⟨_, a, c, e, h2, h3, _⟩ := h.rows.row; omega
  unfold maxLen at hm
  have HT := Lib.hid h.rows; have HIS := Lib.hid his; have HRL := Lib.hid hrl; have HRN := Lib.hid hrn
  clear h his hrl hrn
  obtain ⟨box, hbox⟩ : ∃ b, b = Obj.cells #[.slice ra rn rc, .int .i64 quota, .int .i64 ops, .int .i64 left, fv] 35 := ⟨_, rfl⟩
  have HB := Lib.hid hbox
  clear hbox
  go_enter Try.func68, Try.ntmps68
  go_wp2
  go_loopg [3, 4] rn (fun g v3 v4 wr => ∃ k : Nat, k ≤ rn ∧ g = rn - k ∧ v4 = .int .i64 k ∧ v3 = .int .i64 (sizeR (row.take k)) ∧ wr.cell? ⟨w.heap.size, 0, none⟩ = some (.slice ra rn rc) ∧ Keep (fun _ => False) w wr)
  case atStart => exact ⟨0, Nat.zero_le _, rfl, rfl, rfl, by rw [cell_blk (alloc_new _ _)]; rfl, (Keep.refl _ _).alloc _⟩
  case round =>
    obtain ⟨k, hk, hg, rfl, rfl, hc, hkp⟩ := hrel
    by_cases hlt : k < rn
    · obtain ⟨p, hp⟩ : ∃ p, L[k]? = some p := ⟨_, List.getElem?_eq_getElem (by rw [← HRN.out]; exact hlt)⟩
      have hrow : row[k]? = some p.1 := by rw [← HIS.out, List.getElem?_map, hp]; rfl
      have htk : sizeR (row.take (k + 1)) = sizeR (row.take k) + p.1.2.length := by
        rw [List.take_add_one, hrow]
        exact sizeR_snoc _ _
      have hle := sizeR_take_le row (k + 1)
      rw [htk] at hle
      have HTr : ThAt wr (.slice ra rn rc) L := ⟨Sl.keep HT.out.row hkp (fun _ _ _ e => e), fun p hp => Sl.keep (HT.out.bytes p hp) hkp (fun _ _ _ e => e)⟩
      obtain ⟨rb, ro, rc', ev, r1, r2⟩ := Sl.base HTr.row (by rw [← HRN.out]; omega)
      cases ev
      obtain ⟨c0, c1⟩ := HTr.cells hp
      obtain ⟨_, ba, bc, eb, _⟩ := HTr.bytes p (List.mem_of_getElem? hp)
      obtain ⟨⟨nm, bs⟩, bv⟩ := p
      dsimp only at eb
      subst eb
      dsimp only at hle c0 c1 htk
      obtain ⟨Z, hZ⟩ : ∃ Z : Nat, Z = sizeR (row.take k) := ⟨_, rfl⟩
      rw [← hZ] at hle htk ⊢
      have i1 : (0 : Int) ≤ k := by omega
      have i2 : (k : Int) < L.length := by omega
      have hZb : (Z : Int) + bs.length ≤ 9223372036854775807 := by omega
      unfold maxLen at r2
      have HTK := Lib.hid htk; have HG := Lib.hid hg; have HC := Lib.hid hc; have HK := Lib.hid hkp
      clear htk hg hrow hp hZ HTr hkp
      go_wp2
      go_roundg (L.length - (k + 1))
      case measure => have := HG.out; omega
      case rel => exact ⟨k + 1, by omega, rfl, by go_num, by rw [HTK.out]; go_num, HC.out, HK.out⟩
    · have hkN : k = rn := by omega
      have hfin : row.take k = row := List.take_of_length_le (by rw [HRL.out]; omega)
      have HF := Lib.hid hfin; have HK := Lib.hid hkp
      obtain ⟨Z, hZ⟩ : ∃ Z, Z = sizeR (row.take k) := ⟨_, rfl⟩
      have HZ := Lib.hid hZ
      rw [← hZ]
      clear hfin hg hkp hkN hZ
      go_wp2
      go_ret
      exact ⟨by rw [← HF.out, ← HZ.out]; rfl, HK.out⟩

set_option maxRecDepth 100000 in
set_option maxHeartbeats 2000000 in
theorem r6right_any (w : World) (s : ByteArray) (hs : s.size ≤ maxLen) :
    Calls Try.prog 104 #[.string s] w fun e w' => e = .returned (.bool (nameOK s.data.toList)) ∧ Keep (fun _ => False) w w' := by
  unfold maxLen at hs
  go_enter Try.func104, Try.ntmps104
  go_wp2
  go_loopg [3] s.size (fun g v3 wr => ∃ k : Nat, k ≤ s.size ∧ g = s.size - k ∧ v3 = .int .i64 k ∧ wr = w ∧ ∀ c ∈ s.data.toList.take k, badByte c = false)
  case atStart => exact ⟨0, Nat.zero_le _, rfl, rfl, rfl, by simp⟩
  case round =>
    obtain ⟨k, hk, hg, rfl, rfl, hall⟩ := hrel
    by_cases hlt : k < s.size
    · have hg2 : s.data.toList[k]? = some s[k] := by simp [hlt]; rfl
      have htk : s.data.toList.take (k + 1) = s.data.toList.take k ++ [s[k]] := by rw [List.take_add_one, hg2]; rfl
      have hbad : badByte s[k] = true → nameOK s.data.toList = false := fun hb => by
        unfold nameOK
        have : s.data.toList.all (fun c => !badByte c) = false := by
          rw [List.all_eq_false]
          exact ⟨s[k], List.mem_of_getElem? hg2, by simp [hb]⟩
        rw [this, Bool.and_false]
      have hb0 : badByte s[k] = (decide (s[k].toNat < 33) || decide (126 < s[k].toNat)) := rfl
      have HG := Lib.hid hg; have HT := Lib.hid htk; have HB := Lib.hid hbad; have HB0 := Lib.hid hb0; have HA := Lib.hid hall
      clear hg htk hbad hb0 hg2 hall
      by_cases h1 : ((s[k].toNat : Nat) : Int) < 33
      · go_wp2
        go_ret
        exact ⟨by rw [HB.out (by rw [HB0.out]; simp; omega)]; rfl, Keep.refl _ _⟩
      · by_cases h2 : (126 : Int) < (s[k].toNat : Nat)
        · go_wp2
          go_ret
          exact ⟨by rw [HB.out (by rw [HB0.out]; simp; omega)]; rfl, Keep.refl _ _⟩
        · go_wp2
          go_roundg (s.size - (k + 1))
          case measure => have := HG.out; omega
          case rel =>
            refine ⟨k + 1, by omega, rfl, by go_num, rfl, ?_⟩
            rw [HT.out]
            intro c hc
            rcases List.mem_append.1 hc with hc | hc
            · exact HA.out c hc
            · simp at hc
              rw [hc, HB0.out]
              simp; omega
    · have hkN : k = s.size := by omega
      have hall2 : s.data.toList.all (fun c => !badByte c) = true := by
        rw [List.all_eq_true]
        intro c hc
        have := hall c (by rw [hkN, List.take_of_length_le (by simp)]; exact hc)
        simp [this]
      have hfin : nameOK s.data.toList = (decide ((1 : Int) ≤ s.size) && decide ((s.size : Int) ≤ 80)) := by
        unfold nameOK
        rw [hall2, Bool.and_true]
        have e : s.data.toList.length = s.size := by simp
        rw [e]
        congr 1 <;> (apply decide_eq_decide.2; omega)
      have HF := Lib.hid hfin
      clear hall hall2 hfin hg
      by_cases h1 : (1 : Int) ≤ s.size
      · by_cases h2 : (s.size : Int) ≤ 80
        · go_wp2
          go_ret
          exact ⟨by rw [HF.out, decide_eq_true h1, decide_eq_true h2]; rfl, Keep.refl _ _⟩
        · have X1 := Lib.hid h1
          go_wp2
          go_ret
          exact ⟨by rw [HF.out, decide_eq_true X1.out, decide_eq_false (by omega)]; rfl, Keep.refl _ _⟩
      · go_wp2
        go_ret
        exact ⟨by rw [HF.out, decide_eq_false (by omega)]; rfl, Keep.refl _ _⟩

set_option maxRecDepth 100000 in
set_option maxHeartbeats 2000000 in
theorem r6find_list {w : World} {v : Value} {RS : Nat → Prop} {s : OS} (h : Rf w v RS s) (hr : Rising s.row) (K : Bs) :
    Calls Try.prog 105 #[v, strV K] w fun e w' => e = .returned (.tuple #[.int .i64 (posK s.row K), .bool (lk s.row K).isSome]) ∧ Keep (fun _ => False) w w' := by
  obtain ⟨rv, fv, L, rfl, h⟩ := h
  obtain ⟨ra, rn, rc, rfl⟩ : ∃ a n c, rv = .slice a n c := let ⟨_, a, c, e, _⟩ := h.rows.row; ⟨a, _, c, e⟩
  have hrn : rn = L.length := by obtain ⟨_, a, c, e, _⟩ := h.rows.row; cases e; rfl
  unfold refV
  obtain ⟨row, quota, ops, left, faults⟩ := s
  dsimp only at hr ⊢
  have his : L.map (·.1) = row := h.is
  have hrl : row.length = rn := by rw [hrn, ← his, List.length_map]
  have hm : rn ≤ maxLen := by obtain ⟨_, a, c, e, h2, h3, _⟩ := h.rows.row; omega
  unfold maxLen at hm
  unfold strV
  have hfound := posK_found hr K
  have HT := Lib.hid h.rows; have HIS := Lib.hid his; have HRL := Lib.hid hrl; have HRN := Lib.hid hrn; have HFO := Lib.hid hfound
  clear h his hrl hrn hr hfound
  go_enter Try.func105, Try.ntmps105
  go_wp2
  go_loopg [6] rn (fun g v6 wr => ∃ k : Nat, k ≤ rn ∧ g = rn - k ∧ v6 = .int .i64 k ∧ (∀ e ∈ row.take k, bytesBefore e.1 K = true) ∧ wr.cell? ⟨w.heap.size, 0, none⟩ = some (.slice ra rn rc) ∧ Keep (fun _ => False) w wr)
  case atStart => exact ⟨0, Nat.zero_le _, rfl, rfl, by simp, by rw [cell_blk (alloc_new _ _)]; rfl, (Keep.refl _ _).alloc _⟩
  case round =>
    obtain ⟨k, hk, hg, rfl, hall, hc, hkp⟩ := hrel
    by_cases hlt : k < rn
    · obtain ⟨p, hp⟩ : ∃ p, L[k]? = some p := ⟨_, List.getElem?_eq_getElem (by rw [← HRN.out]; exact hlt)⟩
      have hrow : row[k]? = some p.1 := by rw [← HIS.out, List.getElem?_map, hp]; rfl
      have HTr : ThAt wr (.slice ra rn rc) L := ⟨Sl.keep HT.out.row hkp (fun _ _ _ e => e), fun p hp => Sl.keep (HT.out.bytes p hp) hkp (fun _ _ _ e => e)⟩
      have hrr : Sl wr 2 (.slice ra rn rc) rn (L.flatMap thCells) := by rw [HRN.out]; rw [HRN.out] at HTr; exact HTr.row
      obtain ⟨rb, ro, rc', ev, r1, r2⟩ := Sl.base hrr (by omega)
      cases ev
      obtain ⟨c0, c1⟩ := HTr.cells hp
      obtain ⟨⟨nk, bs⟩, bv⟩ := p
      dsimp only at c0 hrow
      simp only [strV] at c0
      have i1 : (0 : Int) ≤ k := by omega
      have i2 : (k : Int) < rn := by omega
      unfold maxLen at r2
      by_cases hb : bytesBefore nk K = true
      · have hless : Op.bytesLess nk K = true := by rw [less_before]; exact hb
        have htk : ∀ e ∈ row.take (k + 1), bytesBefore e.1 K = true := by
          intro e he
          rw [List.take_add_one, hrow] at he
          rcases List.mem_append.1 he with he | he
          · exact hall e he
          · simp at he; rw [he]; exact hb
        have HTK := Lib.hid htk; have HG := Lib.hid hg; have HC := Lib.hid hc; have HK := Lib.hid hkp
        clear htk hg hrow hp HTr hkp hall hb hrr c1
        go_wp2
        go_roundg (rn - (k + 1))
        case measure => have := HG.out; omega
        case rel => exact ⟨k + 1, by omega, rfl, by go_num, HTK.out, HC.out, HK.out⟩
      · have hb' : bytesBefore nk K = false := by simpa using hb
        have hless : Op.bytesLess nk K = false := by rw [less_before]; exact hb'
        have hpos : posK row K = k := posK_at hall (by rw [HRL.out]; omega) (fun e he => by rw [hrow] at he; cases he; exact hb')
        have hfo := HFO.out
        rw [hpos, hrow] at hfo
        have HP := Lib.hid hpos; have HFF := Lib.hid hfo; have HK := Lib.hid hkp
        clear hpos hfo hb hb' hall hrow hp HTr hkp hrr c1 hg HFO
        by_cases he : nk = K
        · subst he
          go_wp2_with fail
          go_quiet (fail)
          go_wp2
          go_ret2
          exact ⟨by rw [HP.out, HFF.out]; simp, HK.out.drewN nq⟩
        · have hne : (nk == K) = false := by simpa using he
          go_wp2_with fail
          go_quiet (fail)
          go_wp2
          go_ret2
          exact ⟨by rw [HP.out, HFF.out]; simp [hne], HK.out.drewN nq⟩
    · have hkN : k = rn := by omega
      subst hkN
      have hnone : row[k]? = none := List.getElem?_eq_none (by rw [HRL.out]; exact Nat.le_refl _)
      have hpos : posK row K = k := posK_at hall (by rw [HRL.out]; omega) (fun e he => by rw [hnone] at he; cases he)
      have hfo := HFO.out
      rw [hpos, hnone] at hfo
      have HP := Lib.hid hpos; have HFF := Lib.hid hfo; have HK := Lib.hid hkp
      clear hpos hfo hall hkp hg HFO hnone hlt hk
      have hdec : decide ((k : Int) < k) = false := by simp
      go_wp2_with fail
      go_quiet (fail)
      go_wp2
      go_ret2
      exact ⟨by rw [HP.out, HFF.out]; simp, HK.out.drewN nq⟩

theorem r6find_any {w : World} {v : Value} {RS : Nat → Prop} {s : OS} (h : Rf w v RS s) (hr : Rising s.row) (nm : ByteArray) :
    Calls Try.prog 105 #[v, .string nm] w fun e w' => e = .returned (.tuple #[.int .i64 (posK s.row nm.data.toList), .bool (lk s.row nm.data.toList).isSome]) ∧ Keep (fun _ => False) w w' := by
  have := r6find_list h hr nm.data.toList
  have e : strV nm.data.toList = .string nm := by cases nm; simp [strV]
  rw [e] at this
  exact this
end Go.Proofs.Ytgnigkghkldcfaa
