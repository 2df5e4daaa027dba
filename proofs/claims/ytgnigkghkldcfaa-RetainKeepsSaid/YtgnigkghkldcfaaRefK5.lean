/-
  coldstoreref19.Days.
-/
import Derived.Test.YtgnigkghkldcfaaRefK4
namespace Go.Proofs.Ytgnigkghkldcfaa
open Go.RowKit Go.Proofs Go.Lib Go.Maps Go.Sort Go.Shelf

theorem Sl.head' {w : World} {k n m c : Nat} {a : Option Addr} {xs : List Value} (h : Sl w k (.slice a n c) n xs) (hm : m ≤ n) : Sl w k (.slice a m c) m (xs.take (m * k)) := by
  obtain ⟨h1, a', c', e, h2, h3, h4, h6⟩ := h
  cases e
  have hmk : m * k ≤ n * k := Nat.mul_le_mul_right k hm
  refine ⟨by rw [List.length_take]; omega, a, c, rfl, by omega, h3, h4, fun h0 => ?_⟩
  obtain ⟨b, o, rfl, h7⟩ := h6 (by omega)
  refine ⟨b, o, rfl, fun j hj => ?_⟩
  rw [h7 j (by omega), List.getElem?_take, if_pos hj]
theorem Sl.tail' {w : World} {k n m c : Nat} {b o : Nat} {xs : List Value} (h : Sl w k (.slice (some ⟨b, o, none⟩) n c) n xs) (hm : m ≤ n) : Sl w k (.slice (some ⟨b, o + m * k, none⟩) (n - m) (c - m)) (n - m) (xs.drop (m * k)) := by
  obtain ⟨h1, a', c', e, h2, h3, h4, h6⟩ := h
  cases e
  have hmk : m * k + (n - m) * k = n * k := by rw [← Nat.add_mul]; congr 1; omega
  refine ⟨by rw [List.length_drop]; omega, _, c - m, rfl, by omega, by omega, (fun e => by cases e), fun h0 => ⟨b, o + m * k, rfl, fun j hj => ?_⟩⟩
  obtain ⟨b2, o2, e2, h7⟩ := h6 (by omega)
  cases e2
  rw [Nat.add_assoc, h7 _ (by omega), List.getElem?_drop]

theorem days_same {L : List SnapR} {day : Int} {D : List Int} {k : Nat} {s : SnapR} (h : DaysOf (L.take k) day D) (hs : L[k]? = some s) (hd : s.time / day ∈ D) : DaysOf (L.take (k + 1)) day D := by
  refine ⟨h.falls, fun x => (h.mem x).trans ?_⟩
  rw [take_snoc hs]
  constructor
  · rintro ⟨h2, y, hy, e⟩
    exact ⟨h2, y, List.mem_append_left _ hy, e⟩
  · rintro ⟨h2, y, hy, e⟩
    rcases List.mem_append.1 hy with hy | hy
    · exact ⟨h2, y, hy, e⟩
    · simp at hy; subst hy
      exact (h.mem x).1 (e ▸ hd)
theorem days_ins {L : List SnapR} {day : Int} {D : List Int} {k m : Nat} {s : SnapR} (h : DaysOf (L.take k) day D) (hs : L[k]? = some s) (h1 : 1 ≤ day) (hm : m ≤ D.length) (hlo : ∀ j, m ≤ j → (hj : j < D.length) → D[j] < s.time / day) (hhi : ∀ j, j < m → (hj : j < D.length) → s.time / day < D[j]) :
    DaysOf (L.take (k + 1)) day (D.take m ++ [s.time / day] ++ D.drop m) := by
  have hmem : ∀ x, x ∈ D.take m ++ [s.time / day] ++ D.drop m ↔ x ∈ D ∨ x = s.time / day := fun x => by
    conv => rhs; lhs; rw [← List.take_append_drop m D]
    simp only [List.mem_append, List.mem_singleton]
    constructor
    · rintro ((h | h) | h)
      · exact .inl (.inl h)
      · exact .inr h
      · exact .inl (.inr h)
    · rintro ((h | h) | h)
      · exact .inl (.inl h)
      · exact .inr h
      · exact .inl (.inr h)
  have big : ∀ x ∈ D.take m, s.time / day < x := fun x hx => by
    obtain ⟨j, hj, e⟩ := List.getElem_of_mem hx
    rw [List.length_take] at hj
    rw [List.getElem_take] at e
    rw [← e]; exact hhi j (by omega) (by omega)
  have small : ∀ x ∈ D.drop m, x < s.time / day := fun x hx => by
    obtain ⟨j, hj, e⟩ := List.getElem_of_mem hx
    rw [List.length_drop] at hj
    rw [List.getElem_drop] at e
    rw [← e]; exact hlo (m + j) (by omega) (by omega)
  refine ⟨?_, fun x => (hmem x).trans ?_⟩
  · unfold Falls
    rw [List.append_assoc, List.pairwise_append]
    refine ⟨h.falls.sublist (List.take_sublist _ _), ?_, fun a ha b hb => ?_⟩
    · rw [List.singleton_append, List.pairwise_cons]
      exact ⟨fun b hb => small b hb, h.falls.sublist (List.drop_sublist _ _)⟩
    · rw [List.singleton_append, List.mem_cons] at hb
      have := big a ha
      rcases hb with rfl | hb
      · exact this
      · have := small b hb; omega
  · rw [take_snoc hs]
    constructor
    · rintro (hx | rfl)
      · obtain ⟨h2, y, hy, e⟩ := (h.mem x).1 hx
        exact ⟨h2, y, List.mem_append_left _ hy, e⟩
      · exact ⟨h1, s, by simp, rfl⟩
    · rintro ⟨h2, y, hy, e⟩
      rcases List.mem_append.1 hy with hy | hy
      · exact .inl ((h.mem x).2 ⟨h2, y, hy, e⟩)
      · simp at hy; subst hy; exact .inr e.symm

set_option maxRecDepth 100000 in
set_option maxHeartbeats 8000000 in
theorem rdaysref_any {w : World} {v : Value} {L : List SnapR} (hL : SnapsAt w v L) (h32 : Snaps32 L) (ht : ∀ s ∈ L, In64 s.time) (h40 : L.length < 40) {day : Int} (hd2 : In64 day) :
    Calls Try.prog 58 #[v, .int .i64 day] w fun e w' => ∃ d D, e = .returned d ∧ Keep (fun _ => False) w w' ∧ DaysOf L day D ∧ Sl w' 1 d D.length (D.map (.int .i64)) ∧ ∀ b, vblk d = some b → w.heap.size ≤ b := by
  obtain ⟨va, vc, rfl⟩ : ∃ a c, v = .slice a L.length c := let ⟨_, a, c, e, _⟩ := hL; ⟨a, c, e⟩
  by_cases hd1 : 1 ≤ day
  · have hc : ∀ (W : World) (K : Keep (fun _ => False) w W) (k : Nat) (s : SnapR), L[k]? = some s → ∃ lb lo, va = some ⟨lb, lo, none⟩ ∧ W.cell? ⟨lb, lo + k * 37, none⟩ = some (.int .i64 s.time) := fun W K k s hs => by
      obtain ⟨lb, lo, cc, ev, _, _⟩ := Sl.base hL (by have := (List.getElem?_eq_some_iff.1 hs).1; omega)
      cases ev
      refine ⟨lb, lo, rfl, ?_⟩
      have := ((hL.keep K (fun _ _ e => e)).range h32 hs) 0 (.int .i64 s.time) rfl
      simpa using this
    have hday := fun (W : World) (t : Int) (h : In64 t) => rday_any h hd1 hd2 W
    obtain ⟨i0, hi, hz0, hz1, hz2⟩ := info_parts info_i64
    obtain ⟨N, hN⟩ : ∃ N, N = L.length := ⟨_, rfl⟩
    rw [← hN] at h40 ⊢
    have HC := Lib.hid hc; have HN := Lib.hid hN; have HDAY := Lib.hid hday; have HT := Lib.hid ht
    clear hL h32 hc hN hday ht hd2
    go_enter Try.func58, Try.ntmps58
    go_wp2
    go_loopg [5, 6] N (fun g v5 v6 wr => ∃ (k : Nat) (D : List Int) (db dd dc : Nat), k ≤ N ∧ g = N - k ∧ v6 = .int .i64 k ∧ v5 = .slice (some ⟨db, dd, none⟩) D.length dc ∧ w.heap.size ≤ db ∧ Hid (DaysOf (L.take k) day D) ∧ D.length ≤ k ∧ Hid (Sl wr 1 v5 D.length (D.map (.int .i64))) ∧ Hid (Keep (fun _ => False) w wr))
    case atStart =>
      exact ⟨0, [], _, _, 0, Nat.zero_le _, rfl, rfl, rfl, Nat.le_refl _, ⟨List.Pairwise.nil, fun x => ⟨(fun h => by cases h), (fun h => by obtain ⟨_, s, hs, _⟩ := h; cases hs)⟩⟩, Nat.le_refl _, ⟨rfl, _, 0, rfl, Nat.le_refl _, Nat.zero_le _, fun _ => rfl, fun h => absurd h (by simp)⟩, (Keep.refl _ _).alloc _⟩
    case round =>
      obtain ⟨k, D, db, dd, dc, hk, hg, rfl, rfl, hdb, HD, hDk, HS, HK⟩ := hrel
      obtain ⟨M, hM⟩ : ∃ M, M = D.length := ⟨_, rfl⟩
      have hdc : D.length ≤ dc ∧ dc ≤ maxLen := by
        obtain ⟨_, a, c, e, h1, h2, _⟩ := HS.out
        cases e
        exact ⟨h1, h2⟩
      rw [← hM] at hdc ⊢
      by_cases hlt : k < N
      · obtain ⟨s, hs⟩ : ∃ s, L[k]? = some s := ⟨_, List.getElem?_eq_getElem (by rw [← HN.out]; exact hlt)⟩
        obtain ⟨lb, lo, rfl, cs⟩ := HC.out wr HK.out k s hs
        have hcd := HDAY.out wr s.time (HT.out s (List.mem_of_getElem? hs))
        obtain ⟨d, hd⟩ : ∃ d, d = s.time / day := ⟨_, rfl⟩
        obtain ⟨st, hst⟩ : ∃ st, st = s.time := ⟨_, rfl⟩
        rw [← hd] at hcd
        rw [← hst] at hcd cs
        have hch := rhas_any (w := wr) HS.out d (by omega)
        have i1 : (0 : Int) ≤ k := by omega
        have i2 : (k : Int) < N := by omega
        rw [← hM] at hch hDk
        have HS5 := HS
        have HS5 := HS
        have HS5 := HS
        have HS5 := HS
        have HS5 := HS
        have HS5 := HS
        have HCD := Lib.hid hcd; have HCH := Lib.hid hch; have HG := Lib.hid hg; have HLT := Lib.hid hlt; have HSS := Lib.hid hs; have HDD := Lib.hid hd; have HMM := Lib.hid hM
        clear hcd hch hg hlt hs hd hst hM hk
        go_wp2_with fail
        refine HCD.out.mono ?_
        rintro e w1 ⟨rfl, rfl⟩
        go_wp2_with fail
        refine HCH.out.mono ?_
        rintro e w2 ⟨rfl, rfl⟩
        by_cases hin : d ∈ D
        · have hcon : D.contains d = true := by rw [List.contains_iff_mem]; exact hin
          rw [hcon]
          have HNX := Lib.hid (days_same HD.out HSS.out (HDD.out ▸ hin))
          clear hin hcon HCD HCH
          go_wp2
          go_roundg (N - (k + 1))
          case measure => have := HG.out; have := HLT.out; omega
          case rel => exact ⟨k + 1, D, db, dd, dc, HLT.out, rfl, by go_num, by rw [HMM.out], hdb, HNX.out, by rw [← HMM.out]; omega, (by rw [HMM.out]; exact HS.out), HK.out⟩
        · have hcon : D.contains d = false := by simpa using hin
          rw [hcon]
          have HIN := Lib.hid hin
          clear hin hcon HCD HCH
          -- the inner loop
          have HDCM := Lib.hid hdc
          clear hdc
          go_wp2
          go_loopg [8] M (fun g v8 wr => ∃ m : Nat, m ≤ M ∧ g = m ∧ v8 = .int .i64 m ∧ Hid (∀ j, m ≤ j → (hj : j < D.length) → D[j] < d) ∧ w2 = wr)
          case atStart => exact ⟨M, Nat.le_refl _, rfl, rfl, (fun j h1 h2 => absurd h2 (by have := HMM.out; omega)), rfl⟩
          case round =>
            obtain ⟨m, hm, hgm, rfl, HLO, rfl⟩ := hrel
            have HCAP := Lib.hid (show dc = m ∨ m < dc by have := HDCM.out; omega)
            have HGM := Lib.hid hgm
            clear hgm
            by_cases h0 : 0 < m
            · obtain ⟨m1, hm1⟩ : ∃ m1, m1 = m - 1 := ⟨_, rfl⟩
              have hlen : m1 < D.length := by rw [← HMM.out]; omega
              obtain ⟨y, hy⟩ : ∃ y, D[m1]? = some y := ⟨_, List.getElem?_eq_getElem hlen⟩
              have cy : w2.cell? ⟨db, dd + m1, none⟩ = some (.int .i64 y) := Sl.at1 HS.out (by rw [List.getElem?_map, hy]; rfl)
              have hw1 : IntKind.i64.wrap ((m : Int) - 1) = (m1 : Int) := by rw [IntKind.wrap_i64]; omega
              have y1 : (0 : Int) ≤ m1 := by omega
              have y2 : (m1 : Int) < M := by omega
              have hpos : (0 : Int) < m := by omega
              have HM1 := Lib.hid hm1; have HY := Lib.hid hy
              have hyD : D[m1] = y := (List.getElem?_eq_some_iff.1 hy).2
              have hym : y ∈ D := List.mem_of_getElem? hy
              by_cases hyd : y < d
              · have HLO2 := Lib.hid (show ∀ j, m1 ≤ j → (hj : j < D.length) → D[j] < d from fun j h1 h2 => by
                  by_cases e : j = m1
                  · subst e; rw [hyD]; exact hyd
                  · exact HLO.out j (by omega) h2)
                clear hm1 hy hyD hym hlen
                go_wp2
                go_roundg m1
                case measure => have := HGM.out; have := HM1.out; omega
                case rel => exact ⟨m1, by have := HM1.out; omega, rfl, by go_num, HLO2.out, rfl⟩
              · have HHI := Lib.hid (show ∀ j, j < m → (hj : j < D.length) → d < D[j] from fun j h1 h2 => by
                  have hne : y ≠ d := fun e => HIN.out (e ▸ hym)
                  by_cases e : j = m1
                  · subst e; rw [hyD]; omega
                  · have := List.pairwise_iff_getElem.1 HD.out.falls j m1 h2 hlen (by omega)
                    rw [hyD] at this; omega)
                clear hm1 hy hyD hym hlen
                have own0 : (w2.alloc (.cells #[] 2)).ownsRow w2.heap.size 2 1 (.slice (some ⟨w2.heap.size, 0, none⟩) 0 0) 0 [] := ⟨rfl, .inr ⟨_, 0, #[], rfl, Nat.le_refl _, alloc_new _ _, Nat.le_refl _, Nat.zero_le _, rfl, rfl⟩⟩
                have h00 : ∀ b, vblk (.slice (some ⟨w2.heap.size, 0, none⟩) 0 0) = some b → w2.heap.size ≤ b := fun b e => by simp [vblk] at e; omega
                have src1 : Sl (w2.alloc (.cells #[] 2)) 1 (.slice (some ⟨db, dd, none⟩) m dc) m ((D.take m).map (.int .i64)) := by
                  have h := Sl.keep (Sl.head' HS.out (m := m) (by rw [← HMM.out]; exact hm)) ((Keep.refl (fun _ => False) w2).alloc (.cells #[] 2)) (fun _ _ _ e => e)
                  rw [Nat.mul_one, ← List.map_take] at h
                  exact h
                have src3 : ∀ W, Keep (fun _ => False) w2 W → Sl W 1 (.slice (some ⟨db, dd + m, none⟩) (M - m) (dc - m)) (M - m) ((D.drop m).map (.int .i64)) := fun W K => by
                  have h := Sl.keep (Sl.tail' HS.out (m := m) (by rw [← HMM.out]; exact hm)) K (fun _ _ _ e => e)
                  rw [Nat.mul_one, ← List.map_drop, ← HMM.out] at h
                  exact h
                have src0 : ∀ W, M = m → Sl W 1 (.slice (some ⟨db, dd, none⟩) 0 0) 0 ((D.drop m).map (.int .i64)) := fun W e => by
                  have : D.drop m = [] := List.drop_eq_nil_of_le (by rw [← HMM.out]; omega)
                  rw [this]
                  exact ⟨rfl, _, _, rfl, Nat.le_refl _, Nat.zero_le _, fun _ => rfl, fun h => absurd h (Nat.lt_irrefl _)⟩
                have oneI : ∀ (l : List Int), ∀ u ∈ l.map (Value.int .i64), u.oneCell' = true := fun l u hu => by obtain ⟨x, _, rfl⟩ := List.mem_map.1 hu; rfl
                have one2 : ∀ u ∈ [Value.int .i64 d], u.oneCell' = true := fun u hu => by simp at hu; rw [hu]; rfl
                have hins := days_ins HD.out HSS.out hd1 (m := m) (by rw [← HMM.out]; exact hm) (by rw [← HDD.out]; exact HLO.out) (by rw [← HDD.out]; exact HHI.out)
                rw [← HDD.out] at hins
                have hM40 : M < 40 := by omega
                have OWN0 := Lib.hid own0; have H00 := Lib.hid h00; have SRC1 := Lib.hid src1; have SRC3 := Lib.hid src3; have SRC0 := Lib.hid src0; have ONEI := Lib.hid oneI; have ONE2 := Lib.hid one2; have HINS := Lib.hid hins
                have m1' : (0 : Int) ≤ m := by omega
                have m2' : (m : Int) ≤ M := by omega
                have m3' : (M : Int) ≤ dc := by have := HDCM.out; omega
                have m4' : (m : Int) ≤ dc := by omega
                clear own0 h00 src1 src3 src0 oneI one2 hins
                rcases HCAP.out with hcap | hcap
                · have hMm : m = M := by have := HDCM.out; omega
                  have hcap' : m = dc := hcap.symm
                  subst hcap'
                  subst hMm
                  go_wp2_with (first
                    | (at_builtin; refine wpList_append_sl rfl (.tmp 46) (.tmp 49) 89 rfl w2.heap.size 2 i0 _ 1 8 Try.underlying89 hi hz0 hz1 hz2 rfl (by decide) (.slice (some ⟨w2.heap.size, 0, none⟩) 0 0) 0 [] rfl OWN0.out _ m ((D.take m).map (.int .i64)) rfl SRC1.out (ONEI.out _) (by unfold maxLen; omega) (by omega) (by simp) ?_; intro v1 Y1 hown1 hk1 hb1; rw [Nat.zero_add, List.nil_append] at hown1; obtain ⟨g1, c1, e1, O1, KX1, B1, Z1⟩ := own_next ((Keep.refl _ _).alloc _) H00.out hown1 hk1 hb1; subst e1; clear hown1 hk1 hb1)
                    | (at_builtin; refine wpList_append_sl rfl (.tmp 51) (.tmp 53) 89 rfl w2.heap.size 2 i0 _ 1 8 Try.underlying89 hi hz0 hz1 hz2 rfl (by decide) (.slice g1 m c1) m ((D.take m).map (.int .i64)) rfl (O1.out.alloc _) _ 1 [.int .i64 d] rfl (sl_made Y1 1 1 #[.int .i64 d] 2 rfl (by decide)) ONE2.out (by unfold maxLen; omega) (by omega) (by simp; omega) ?_; intro v2 Y2 hown2 hk2 hb2; obtain ⟨g2, c2, e2, O2, KX2, B2, Z2⟩ := own_next (KX1.out.alloc _) B1.out hown2 hk2 hb2; subst e2; clear hown2 hk2 hb2)
                    | (at_builtin; refine wpList_append_sl rfl (.tmp 55) (.tmp 58) 89 rfl w2.heap.size 2 i0 _ 1 8 Try.underlying89 hi hz0 hz1 hz2 rfl (by decide) (.slice g2 (m + 1) c2) (m + 1) ((D.take m).map (.int .i64) ++ [.int .i64 d]) rfl O2.out _ 0 ((D.drop m).map (.int .i64)) rfl (SRC0.out _ rfl) (ONEI.out _) (by unfold maxLen; omega) (by omega) Z2 ?_; intro v3 Y3 hown3 hk3 hb3; obtain ⟨g3, c3, e3, O3, KX3, B3, Z3⟩ := own_next KX2.out B2.out hown3 hk3 hb3; subst e3; clear hown3 hk3 hb3))
                  have hln : (D.take m ++ [d] ++ D.drop m).length = m + 1 + 0 := by
                    rw [List.length_append, List.length_append, List.length_take, List.length_drop, List.length_singleton, ← HMM.out]; omega
                  obtain ⟨g4, c4, e4, _⟩ := own_ptr O3.out (by omega)
                  cases e4
                  have HLN := Lib.hid hln
                  have HOS := Lib.hid (Sl.of_owns O3.out).1
                  clear hln
                  go_roundg (N - (k + 1))
                  case measure => have := HG.out; have := HLT.out; omega
                  case rel => exact ⟨k + 1, D.take m ++ [d] ++ D.drop m, g4, 0, c3, HLT.out, rfl, by go_num, by rw [HLN.out], (by have := B3.out g4 rfl; have := HK.out.size; omega), HINS.out, by rw [HLN.out]; omega, by rw [HLN.out, List.map_append, List.map_append]; exact HOS.out, HK.out.trans KX3.out⟩
                · go_wp2_with (first
                    | (at_builtin; refine wpList_append_sl rfl (.tmp 46) (.tmp 49) 89 rfl w2.heap.size 2 i0 _ 1 8 Try.underlying89 hi hz0 hz1 hz2 rfl (by decide) (.slice (some ⟨w2.heap.size, 0, none⟩) 0 0) 0 [] rfl OWN0.out _ m ((D.take m).map (.int .i64)) rfl SRC1.out (ONEI.out _) (by unfold maxLen; omega) (by omega) (by simp) ?_; intro v1 Y1 hown1 hk1 hb1; rw [Nat.zero_add, List.nil_append] at hown1; obtain ⟨g1, c1, e1, O1, KX1, B1, Z1⟩ := own_next ((Keep.refl _ _).alloc _) H00.out hown1 hk1 hb1; subst e1; clear hown1 hk1 hb1)
                    | (at_builtin; refine wpList_append_sl rfl (.tmp 51) (.tmp 53) 89 rfl w2.heap.size 2 i0 _ 1 8 Try.underlying89 hi hz0 hz1 hz2 rfl (by decide) (.slice g1 m c1) m ((D.take m).map (.int .i64)) rfl (O1.out.alloc _) _ 1 [.int .i64 d] rfl (sl_made Y1 1 1 #[.int .i64 d] 2 rfl (by decide)) ONE2.out (by unfold maxLen; omega) (by omega) (by simp; omega) ?_; intro v2 Y2 hown2 hk2 hb2; obtain ⟨g2, c2, e2, O2, KX2, B2, Z2⟩ := own_next (KX1.out.alloc _) B1.out hown2 hk2 hb2; subst e2; clear hown2 hk2 hb2)
                    | (at_builtin; refine wpList_append_sl rfl (.tmp 55) (.tmp 58) 89 rfl w2.heap.size 2 i0 _ 1 8 Try.underlying89 hi hz0 hz1 hz2 rfl (by decide) (.slice g2 (m + 1) c2) (m + 1) ((D.take m).map (.int .i64) ++ [.int .i64 d]) rfl O2.out _ (M - m) ((D.drop m).map (.int .i64)) rfl (SRC3.out _ KX2.out) (ONEI.out _) (by unfold maxLen; omega) (by omega) Z2 ?_; intro v3 Y3 hown3 hk3 hb3; obtain ⟨g3, c3, e3, O3, KX3, B3, Z3⟩ := own_next KX2.out B2.out hown3 hk3 hb3; subst e3; clear hown3 hk3 hb3))
                  have hln : (D.take m ++ [d] ++ D.drop m).length = m + 1 + (M - m) := by
                    rw [List.length_append, List.length_append, List.length_take, List.length_drop, List.length_singleton, ← HMM.out]; omega
                  obtain ⟨g4, c4, e4, _⟩ := own_ptr O3.out (by omega)
                  cases e4
                  have HLN := Lib.hid hln
                  have HOS := Lib.hid (Sl.of_owns O3.out).1
                  clear hln
                  go_roundg (N - (k + 1))
                  case measure => have := HG.out; have := HLT.out; omega
                  case rel => exact ⟨k + 1, D.take m ++ [d] ++ D.drop m, g4, 0, c3, HLT.out, rfl, by go_num, by rw [HLN.out], (by have := B3.out g4 rfl; have := HK.out.size; omega), HINS.out, by rw [HLN.out]; omega, by rw [HLN.out, List.map_append, List.map_append]; exact HOS.out, HK.out.trans KX3.out⟩
            · have HHI := Lib.hid (show ∀ j, j < m → (hj : j < D.length) → d < D[j] from fun j h1 h2 => by omega)
              have hpos : ¬ (0 : Int) < m := by omega
              have own0 : (w2.alloc (.cells #[] 2)).ownsRow w2.heap.size 2 1 (.slice (some ⟨w2.heap.size, 0, none⟩) 0 0) 0 [] := ⟨rfl, .inr ⟨_, 0, #[], rfl, Nat.le_refl _, alloc_new _ _, Nat.le_refl _, Nat.zero_le _, rfl, rfl⟩⟩
              have h00 : ∀ b, vblk (.slice (some ⟨w2.heap.size, 0, none⟩) 0 0) = some b → w2.heap.size ≤ b := fun b e => by simp [vblk] at e; omega
              have src1 : Sl (w2.alloc (.cells #[] 2)) 1 (.slice (some ⟨db, dd, none⟩) m dc) m ((D.take m).map (.int .i64)) := by
                have h := Sl.keep (Sl.head' HS.out (m := m) (by rw [← HMM.out]; exact hm)) ((Keep.refl (fun _ => False) w2).alloc (.cells #[] 2)) (fun _ _ _ e => e)
                rw [Nat.mul_one, ← List.map_take] at h
                exact h
              have src3 : ∀ W, Keep (fun _ => False) w2 W → Sl W 1 (.slice (some ⟨db, dd + m, none⟩) (M - m) (dc - m)) (M - m) ((D.drop m).map (.int .i64)) := fun W K => by
                have h := Sl.keep (Sl.tail' HS.out (m := m) (by rw [← HMM.out]; exact hm)) K (fun _ _ _ e => e)
                rw [Nat.mul_one, ← List.map_drop, ← HMM.out] at h
                exact h
              have src0 : ∀ W, M = m → Sl W 1 (.slice (some ⟨db, dd, none⟩) 0 0) 0 ((D.drop m).map (.int .i64)) := fun W e => by
                have : D.drop m = [] := List.drop_eq_nil_of_le (by rw [← HMM.out]; omega)
                rw [this]
                exact ⟨rfl, _, _, rfl, Nat.le_refl _, Nat.zero_le _, fun _ => rfl, fun h => absurd h (Nat.lt_irrefl _)⟩
              have oneI : ∀ (l : List Int), ∀ u ∈ l.map (Value.int .i64), u.oneCell' = true := fun l u hu => by obtain ⟨x, _, rfl⟩ := List.mem_map.1 hu; rfl
              have one2 : ∀ u ∈ [Value.int .i64 d], u.oneCell' = true := fun u hu => by simp at hu; rw [hu]; rfl
              have hins := days_ins HD.out HSS.out hd1 (m := m) (by rw [← HMM.out]; exact hm) (by rw [← HDD.out]; exact HLO.out) (by rw [← HDD.out]; exact HHI.out)
              rw [← HDD.out] at hins
              have hM40 : M < 40 := by omega
              have OWN0 := Lib.hid own0; have H00 := Lib.hid h00; have SRC1 := Lib.hid src1; have SRC3 := Lib.hid src3; have SRC0 := Lib.hid src0; have ONEI := Lib.hid oneI; have ONE2 := Lib.hid one2; have HINS := Lib.hid hins
              have m1' : (0 : Int) ≤ m := by omega
              have m2' : (m : Int) ≤ M := by omega
              have m3' : (M : Int) ≤ dc := by have := HDCM.out; omega
              have m4' : (m : Int) ≤ dc := by omega
              clear own0 h00 src1 src3 src0 oneI one2 hins
              rcases HCAP.out with hcap | hcap
              · have hMm : m = M := by have := HDCM.out; omega
                have hcap' : m = dc := hcap.symm
                subst hcap'
                subst hMm
                go_wp2_with (first
                  | (at_builtin; refine wpList_append_sl rfl (.tmp 46) (.tmp 49) 89 rfl w2.heap.size 2 i0 _ 1 8 Try.underlying89 hi hz0 hz1 hz2 rfl (by decide) (.slice (some ⟨w2.heap.size, 0, none⟩) 0 0) 0 [] rfl OWN0.out _ m ((D.take m).map (.int .i64)) rfl SRC1.out (ONEI.out _) (by unfold maxLen; omega) (by omega) (by simp) ?_; intro v1 Y1 hown1 hk1 hb1; rw [Nat.zero_add, List.nil_append] at hown1; obtain ⟨g1, c1, e1, O1, KX1, B1, Z1⟩ := own_next ((Keep.refl _ _).alloc _) H00.out hown1 hk1 hb1; subst e1; clear hown1 hk1 hb1)
                  | (at_builtin; refine wpList_append_sl rfl (.tmp 51) (.tmp 53) 89 rfl w2.heap.size 2 i0 _ 1 8 Try.underlying89 hi hz0 hz1 hz2 rfl (by decide) (.slice g1 m c1) m ((D.take m).map (.int .i64)) rfl (O1.out.alloc _) _ 1 [.int .i64 d] rfl (sl_made Y1 1 1 #[.int .i64 d] 2 rfl (by decide)) ONE2.out (by unfold maxLen; omega) (by omega) (by simp; omega) ?_; intro v2 Y2 hown2 hk2 hb2; obtain ⟨g2, c2, e2, O2, KX2, B2, Z2⟩ := own_next (KX1.out.alloc _) B1.out hown2 hk2 hb2; subst e2; clear hown2 hk2 hb2)
                  | (at_builtin; refine wpList_append_sl rfl (.tmp 55) (.tmp 58) 89 rfl w2.heap.size 2 i0 _ 1 8 Try.underlying89 hi hz0 hz1 hz2 rfl (by decide) (.slice g2 (m + 1) c2) (m + 1) ((D.take m).map (.int .i64) ++ [.int .i64 d]) rfl O2.out _ 0 ((D.drop m).map (.int .i64)) rfl (SRC0.out _ rfl) (ONEI.out _) (by unfold maxLen; omega) (by omega) Z2 ?_; intro v3 Y3 hown3 hk3 hb3; obtain ⟨g3, c3, e3, O3, KX3, B3, Z3⟩ := own_next KX2.out B2.out hown3 hk3 hb3; subst e3; clear hown3 hk3 hb3))
                have hln : (D.take m ++ [d] ++ D.drop m).length = m + 1 + 0 := by
                  rw [List.length_append, List.length_append, List.length_take, List.length_drop, List.length_singleton, ← HMM.out]; omega
                obtain ⟨g4, c4, e4, _⟩ := own_ptr O3.out (by omega)
                cases e4
                have HLN := Lib.hid hln
                have HOS := Lib.hid (Sl.of_owns O3.out).1
                clear hln
                go_roundg (N - (k + 1))
                case measure => have := HG.out; have := HLT.out; omega
                case rel => exact ⟨k + 1, D.take m ++ [d] ++ D.drop m, g4, 0, c3, HLT.out, rfl, by go_num, by rw [HLN.out], (by have := B3.out g4 rfl; have := HK.out.size; omega), HINS.out, by rw [HLN.out]; omega, by rw [HLN.out, List.map_append, List.map_append]; exact HOS.out, HK.out.trans KX3.out⟩
              · go_wp2_with (first
                  | (at_builtin; refine wpList_append_sl rfl (.tmp 46) (.tmp 49) 89 rfl w2.heap.size 2 i0 _ 1 8 Try.underlying89 hi hz0 hz1 hz2 rfl (by decide) (.slice (some ⟨w2.heap.size, 0, none⟩) 0 0) 0 [] rfl OWN0.out _ m ((D.take m).map (.int .i64)) rfl SRC1.out (ONEI.out _) (by unfold maxLen; omega) (by omega) (by simp) ?_; intro v1 Y1 hown1 hk1 hb1; rw [Nat.zero_add, List.nil_append] at hown1; obtain ⟨g1, c1, e1, O1, KX1, B1, Z1⟩ := own_next ((Keep.refl _ _).alloc _) H00.out hown1 hk1 hb1; subst e1; clear hown1 hk1 hb1)
                  | (at_builtin; refine wpList_append_sl rfl (.tmp 51) (.tmp 53) 89 rfl w2.heap.size 2 i0 _ 1 8 Try.underlying89 hi hz0 hz1 hz2 rfl (by decide) (.slice g1 m c1) m ((D.take m).map (.int .i64)) rfl (O1.out.alloc _) _ 1 [.int .i64 d] rfl (sl_made Y1 1 1 #[.int .i64 d] 2 rfl (by decide)) ONE2.out (by unfold maxLen; omega) (by omega) (by simp; omega) ?_; intro v2 Y2 hown2 hk2 hb2; obtain ⟨g2, c2, e2, O2, KX2, B2, Z2⟩ := own_next (KX1.out.alloc _) B1.out hown2 hk2 hb2; subst e2; clear hown2 hk2 hb2)
                  | (at_builtin; refine wpList_append_sl rfl (.tmp 55) (.tmp 58) 89 rfl w2.heap.size 2 i0 _ 1 8 Try.underlying89 hi hz0 hz1 hz2 rfl (by decide) (.slice g2 (m + 1) c2) (m + 1) ((D.take m).map (.int .i64) ++ [.int .i64 d]) rfl O2.out _ (M - m) ((D.drop m).map (.int .i64)) rfl (SRC3.out _ KX2.out) (ONEI.out _) (by unfold maxLen; omega) (by omega) Z2 ?_; intro v3 Y3 hown3 hk3 hb3; obtain ⟨g3, c3, e3, O3, KX3, B3, Z3⟩ := own_next KX2.out B2.out hown3 hk3 hb3; subst e3; clear hown3 hk3 hb3))
                have hln : (D.take m ++ [d] ++ D.drop m).length = m + 1 + (M - m) := by
                  rw [List.length_append, List.length_append, List.length_take, List.length_drop, List.length_singleton, ← HMM.out]; omega
                obtain ⟨g4, c4, e4, _⟩ := own_ptr O3.out (by omega)
                cases e4
                have HLN := Lib.hid hln
                have HOS := Lib.hid (Sl.of_owns O3.out).1
                clear hln
                go_roundg (N - (k + 1))
                case measure => have := HG.out; have := HLT.out; omega
                case rel => exact ⟨k + 1, D.take m ++ [d] ++ D.drop m, g4, 0, c3, HLT.out, rfl, by go_num, by rw [HLN.out], (by have := B3.out g4 rfl; have := HK.out.size; omega), HINS.out, by rw [HLN.out]; omega, by rw [HLN.out, List.map_append, List.map_append]; exact HOS.out, HK.out.trans KX3.out⟩
      · have hkN : k = N := by omega
        subst hkN
        have hD := HD.out
        rw [List.take_of_length_le (by rw [← HN.out]; exact Nat.le_refl _)] at hD
        have HF := Lib.hid hD
        clear hg hk hlt hD HD
        go_wp2
        go_ret
        refine ⟨_, D, rfl, HK.out, HF.out, ?_, fun b e => by simp [vblk] at e; omega⟩
        rw [hM]; exact HS.out
  · have HD := Lib.hid (days_none L hd1)
    clear hL h32 ht hd2
    go_enter Try.func58, Try.ntmps58
    go_wp2
    refine wp_loop_rounds 1 ?_
    rw [rounds_succ]
    by_cases h0 : (0 : Int) < L.length
    all_goals
      go_wp2
      go_ret
      first
        | exact ⟨_, rfl, (Keep.refl _ _).alloc _, ([] : List Int), HD.out, ⟨rfl, _, 0, rfl, Nat.le_refl _, Nat.zero_le _, fun _ => rfl, fun h => absurd h (by simp)⟩, fun b e => by simp [vblk] at e; omega⟩
        | exact ⟨_, ([] : List Int), rfl, (Keep.refl _ _).alloc _, HD.out, ⟨rfl, _, 0, rfl, Nat.le_refl _, Nat.zero_le _, fun _ => rfl, fun h => absurd h (by simp)⟩, fun b e => by simp [vblk] at e; omega⟩
end Go.Proofs.Ytgnigkghkldcfaa
