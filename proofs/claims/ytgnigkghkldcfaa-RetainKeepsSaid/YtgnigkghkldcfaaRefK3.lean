/-
  coldstoreref19.Day, has, near, top.
-/
import Derived.Test.YtgnigkghkldcfaaRefK2
namespace Go.Proofs.Ytgnigkghkldcfaa
open Go.RowKit Go.Proofs Go.Lib Go.Maps Go.Sort Go.Shelf

set_option maxRecDepth 100000 in
theorem rday_any {t d : Int} (ht : In64 t) (hd : 1 ≤ d) (hd2 : In64 d) (w : World) : Calls Try.prog 91 #[.int .i64 t, .int .i64 d] w fun e w' => e = .returned (.int .i64 (t / d)) ∧ w' = w := by
  have h0 : (d == 0) = false := by simp; omega
  have hr := div_in ht hd
  have hid := Int.tdiv_mul_add_tmod t d
  obtain ⟨q, hq⟩ : ∃ q, t.tdiv d = q := ⟨_, rfl⟩
  obtain ⟨r, hrr⟩ : ∃ r, r = t / d := ⟨_, rfl⟩
  obtain ⟨md, hmd⟩ : ∃ md, md = t.tmod d := ⟨_, rfl⟩
  rw [hq, ← hmd] at hid
  have hlt : md < d := by rw [hmd]; exact Int.tmod_lt_of_pos t (by omega)
  have hpos : 0 ≤ t → 0 ≤ md := fun h => by rw [hmd]; exact Int.tmod_nonneg d h
  have hneg : t < 0 → md ≤ 0 ∧ -d < md := fun h => by
    have e : t = -(-t) := by omega
    rw [hmd, e, Int.neg_tmod]
    have h1 := Int.tmod_nonneg d (show 0 ≤ -t by omega)
    have h2 := Int.tmod_lt_of_pos (-t) (show 0 < d by omega)
    omega
  obtain ⟨m, hm⟩ : ∃ m, q * d = m := ⟨_, rfl⟩
  rw [hm] at hid
  rw [← hrr] at hr ⊢
  unfold In64 at hr ht hd2
  by_cases hc : md < 0
  · have e1 := tmod_neg hd (by rw [← hmd]; exact hc)
    rw [hq, ← hrr] at e1
    have ht0 : t < 0 := by
      by_cases h : t < 0
      · exact h
      · have := hpos (by omega); omega
    have hr0 : r < 0 := by rw [hrr]; exact (Int.ediv_lt_iff_lt_mul (by omega)).2 (by omega)
    have hwq : IntKind.i64.wrap q = q := by rw [IntKind.wrap_i64]; omega
    have hwm : IntKind.i64.wrap m = m := by have := hneg ht0; rw [IntKind.wrap_i64]; omega
    have hwr : IntKind.i64.wrap (q - 1) = r := by rw [IntKind.wrap_i64]; omega
    have hne : (m == t) = false := by simp; omega
    clear hid hlt hpos hneg hc e1 hr hrr hmd
    go_enter Try.func91, Try.ntmps91
    go_wp2
    go_ret
    exact ⟨rfl, rfl⟩
  · have e1 := tmod_pos hd (by rw [← hmd]; exact hc)
    rw [hq, ← hrr] at e1
    have hwq : IntKind.i64.wrap q = q := by rw [IntKind.wrap_i64]; omega
    by_cases ht0 : t < 0
    · have hmd0 : md = 0 := by have := hneg ht0; omega
      have hwm : IntKind.i64.wrap m = t := by rw [IntKind.wrap_i64]; omega
      have HE := Lib.hid e1
      clear hid hlt hpos hneg hc e1 hr hrr hmd hmd0
      go_enter Try.func91, Try.ntmps91
      go_wp2
      go_ret
      exact ⟨by rw [← HE.out]; rfl, rfl⟩
    · have HE := Lib.hid e1
      clear hid hlt hpos hneg hc e1 hr hrr hmd
      go_enter Try.func91, Try.ntmps91
      go_wp2
      go_ret
      exact ⟨by rw [← HE.out]; rfl, rfl⟩

set_option maxRecDepth 100000 in
theorem rhas_any {w : World} {v : Value} {D : List Int} (hD : Sl w 1 v D.length (D.map (.int .i64))) (x : Int) (h40 : D.length < 40) :
    Calls Try.prog 98 #[v, .int .i64 x] w fun e w' => e = .returned (.bool (D.contains x)) ∧ w' = w := by
  obtain ⟨va, vc, rfl⟩ : ∃ a c, v = .slice a D.length c := let ⟨_, a, c, e, _⟩ := hD; ⟨a, c, e⟩
  obtain ⟨N, hN⟩ : ∃ N, N = D.length := ⟨_, rfl⟩
  rw [← hN] at hD h40 ⊢
  have HD := Lib.hid hD; have HN := Lib.hid hN
  clear hD hN
  go_enter Try.func98, Try.ntmps98
  go_wp2
  go_loopg [5] N (fun g v5 wr => ∃ k : Nat, k ≤ N ∧ g = N - k ∧ v5 = .int .i64 k ∧ Hid (x ∉ D.take k) ∧ w = wr)
  case atStart => exact ⟨0, Nat.zero_le _, rfl, rfl, (show x ∉ D.take 0 by simp), rfl⟩
  case round =>
    obtain ⟨k, hk, hg, rfl, HX, rfl⟩ := hrel
    by_cases hlt : k < N
    · obtain ⟨y, hy⟩ : ∃ y, D[k]? = some y := ⟨_, List.getElem?_eq_getElem (by rw [← HN.out]; exact hlt)⟩
      obtain ⟨bb, oo, cc, ev, _, _⟩ := Sl.base HD.out (by omega)
      cases ev
      have cy : w.cell? ⟨bb, oo + k, none⟩ = some (.int .i64 y) := Sl.at1 HD.out (by rw [List.getElem?_map, hy]; rfl)
      have i1 : (0 : Int) ≤ k := by omega
      have i2 : (k : Int) < N := by omega
      have HY := Lib.hid hy; have HG := Lib.hid hg; have HLT := Lib.hid hlt
      clear hy hg hlt hk
      by_cases hxy : y = x
      · have e : (y == x) = true := by simpa using hxy
        have HC := Lib.hid (show D.contains x = true by rw [List.contains_iff_mem, ← hxy]; exact List.mem_of_getElem? HY.out)
        clear hxy
        go_wp2
        go_ret
        exact ⟨by rw [HC.out]; rfl, rfl⟩
      · have e : (y == x) = false := by simpa using hxy
        have HX2 := Lib.hid (show x ∉ D.take (k + 1) by
          rw [take_snoc HY.out, List.mem_append]
          rintro (h | h)
          · exact HX.out h
          · simp at h; exact hxy h.symm)
        clear hxy
        go_wp2
        go_roundg (N - (k + 1))
        case measure => have := HG.out; have := HLT.out; omega
        case rel => exact ⟨k + 1, HLT.out, rfl, by go_num, HX2.out, rfl⟩
    · have hkN : k = N := by omega
      have HC := Lib.hid (show D.contains x = false by
        have h := HX.out
        rw [List.take_of_length_le (by rw [← HN.out]; omega)] at h
        simpa using h)
      subst hkN
      clear hg hk hlt HX
      go_wp2
      go_ret
      exact ⟨by rw [HC.out]; rfl, rfl⟩

set_option maxRecDepth 100000 in
theorem rnear_any {t last less : Int} (ht : In64 t) (hl : In64 last) (hs : In64 less) (htl : t ≤ last) (w : World) : Calls Try.prog 92 #[.int .i64 t, .int .i64 last, .int .i64 less] w fun e w' => e = .returned (.bool (aboveV t last less)) ∧ w' = w := by
  unfold In64 at ht hl hs
  by_cases h : less ≤ 0
  · have e : aboveV t last less = false := by unfold aboveV; simp; omega
    rw [e]
    go_enter Try.func92, Try.ntmps92
    go_wp2
    go_ret
    exact ⟨rfl, rfl⟩
  · have e : aboveV t last less = decide (last - t < less) := by unfold aboveV; rw [decide_eq_true (show 0 < less by omega)]; simp
    rw [e]
    have HE := Lib.hid (And.intro ht (And.intro hl (And.intro hs htl)))
    by_cases h1 : t < 0
    · by_cases h2 : 0 ≤ last
      · go_enter Try.func92, Try.ntmps92
        go_wp2
        go_ret
        refine ⟨?_, rfl⟩
        show Ending.returned (.bool _) = _
        congr 2
        apply decide_eq_decide.2
        omega
      · go_enter Try.func92, Try.ntmps92
        go_wp2
        go_ret
        refine ⟨?_, rfl⟩
        show Ending.returned (.bool _) = _
        congr 2
    · go_enter Try.func92, Try.ntmps92
      go_wp2
      go_ret
      refine ⟨?_, rfl⟩
      show Ending.returned (.bool _) = _
      congr 2

set_option maxRecDepth 100000 in
theorem rtop_any {w : World} {v : Value} {L : List SnapR} (hL : SnapsAt w v L) (h32 : Snaps32 L) (h0 : 0 < L.length) (h40 : L.length < 40) :
    Calls Try.prog 93 #[v] w fun e w' => ∃ T, e = .returned (.int .i64 T) ∧ w' = w ∧ (∀ s ∈ L, s.time ≤ T) ∧ ∃ s ∈ L, s.time = T := by
  obtain ⟨bb, oo, cc, rfl, _, _⟩ := Sl.base hL h0
  obtain ⟨N, hN⟩ : ∃ N, N = L.length := ⟨_, rfl⟩
  have hc : ∀ k s, L[k]? = some s → w.cell? ⟨bb, oo + k * 37, none⟩ = some (.int .i64 s.time) := fun k s hs => by
    have := (hL.range h32 hs) 0 (.int .i64 s.time) rfl
    simpa using this
  obtain ⟨s0, hs0⟩ : ∃ s, L[0]? = some s := ⟨_, List.getElem?_eq_getElem h0⟩
  have c0 : w.cell? ⟨bb, oo, none⟩ = some (.int .i64 s0.time) := by have := hc 0 s0 hs0; simpa using this
  rw [← hN] at h0 h40 ⊢
  have HN := Lib.hid hN; have HC := Lib.hid hc; have HS0 := Lib.hid hs0
  have n0 : (0 : Int) < N := by omega
  clear hL h32 hN hc hs0
  go_enter Try.func93, Try.ntmps93
  go_wp2
  go_loopg [3, 4] (N - 1) (fun g v3 v4 wr => ∃ (k : Nat) (T : Int), 1 ≤ k ∧ k ≤ N ∧ g = N - k ∧ v4 = .int .i64 k ∧ v3 = .int .i64 T ∧ Hid ((∀ s ∈ L.take k, s.time ≤ T) ∧ ∃ s ∈ L.take k, s.time = T) ∧ w = wr)
  case atStart =>
    have e : L.take 1 = [s0] := by have := take_snoc HS0.out; simpa using this
    exact ⟨1, s0.time, Nat.le_refl _, h0, rfl, rfl, rfl, by rw [e]; exact ⟨fun s hs => by simp at hs; rw [hs]; exact Int.le_refl _, s0, by simp, rfl⟩, rfl⟩
  case round =>
    obtain ⟨k, T, hk1, hk, hg, rfl, rfl, HT, rfl⟩ := hrel
    by_cases hlt : k < N
    · obtain ⟨s, hs⟩ : ∃ s, L[k]? = some s := ⟨_, List.getElem?_eq_getElem (by rw [← HN.out]; exact hlt)⟩
      have cs := HC.out k s hs
      have i1 : (0 : Int) ≤ k := by omega
      have i2 : (k : Int) < N := by omega
      have HS := Lib.hid hs; have HG := Lib.hid hg; have HLT := Lib.hid hlt; have HK1 := Lib.hid hk1
      clear hs hg hlt hk hk1
      by_cases hT : T < s.time
      · have HT2 := Lib.hid (show (∀ x ∈ L.take (k + 1), x.time ≤ s.time) ∧ ∃ x ∈ L.take (k + 1), x.time = s.time by
          rw [take_snoc HS.out]
          refine ⟨fun x hx => ?_, s, by simp, rfl⟩
          rcases List.mem_append.1 hx with hx | hx
          · have := HT.out.1 x hx; omega
          · simp at hx; rw [hx]; exact Int.le_refl _)
        go_wp2
        go_roundg (N - (k + 1))
        case measure => have := HG.out; have := HLT.out; omega
        case rel => exact ⟨k + 1, s.time, by omega, HLT.out, rfl, by go_num, rfl, HT2.out, rfl⟩
      · have HT2 := Lib.hid (show (∀ x ∈ L.take (k + 1), x.time ≤ T) ∧ ∃ x ∈ L.take (k + 1), x.time = T by
          rw [take_snoc HS.out]
          refine ⟨fun x hx => ?_, ?_⟩
          · rcases List.mem_append.1 hx with hx | hx
            · exact HT.out.1 x hx
            · simp at hx; rw [hx]; omega
          · obtain ⟨x, hx, e⟩ := HT.out.2
            exact ⟨x, List.mem_append_left _ hx, e⟩)
        go_wp2
        go_roundg (N - (k + 1))
        case measure => have := HG.out; have := HLT.out; omega
        case rel => exact ⟨k + 1, T, by omega, HLT.out, rfl, by go_num, rfl, HT2.out, rfl⟩
    · have hkN : k = N := by omega
      have e : L.take k = L := List.take_of_length_le (by rw [← HN.out]; omega)
      have hT := HT.out
      rw [e] at hT
      have HF := Lib.hid hT
      subst hkN
      clear hg hk hlt hT e HT hk1
      go_wp2
      go_ret
      exact ⟨T, rfl, rfl, HF.out⟩
end Go.Proofs.Ytgnigkghkldcfaa
