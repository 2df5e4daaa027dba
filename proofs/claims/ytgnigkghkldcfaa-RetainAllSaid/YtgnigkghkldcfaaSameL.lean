/-
  coldstoreref01.SameStrings, SameInts: of two slices that read as lists, whether these are the same.
-/
import Derived.Test.YtgnigkghkldcfaaNames
import Derived.Deep.LoopGhost
import Derived.Deep.Light
import Derived.Deep.QuietTactic
import Derived.BigQuiet
namespace Go.Proofs.Ytgnigkghkldcfaa
open Go.RowKit Go.Proofs Go.Lib

theorem take_all_eq {α : Type} [DecidableEq α] {a b : List α} {k : Nat} (hl : a.length = b.length) (hk : k = a.length) (h : a.take k = b.take k) : a = b := by
  rw [List.take_of_length_le (by omega), List.take_of_length_le (by omega)] at h
  exact h
theorem take_ne {α : Type} {a b : List α} {k : Nat} {x y : α} (hx : a[k]? = some x) (hy : b[k]? = some y) (hne : x ≠ y) : a ≠ b := by
  rintro rfl
  rw [hx] at hy; cases hy; exact hne rfl
theorem take_more {α : Type} {a b : List α} {k : Nat} {x : α} (hx : a[k]? = some x) (hy : b[k]? = some x) (h : a.take k = b.take k) : a.take (k + 1) = b.take (k + 1) := by
  rw [List.take_add_one, List.take_add_one, hx, hy, h]

/-- the cell of element k -/
theorem Sl.at1 {w : World} {b o n c : Nat} {xs : List Value} (h : Sl w 1 (.slice (some ⟨b, o, none⟩) n c) n xs) {k : Nat} {u : Value} (hu : xs[k]? = some u) : w.cell? ⟨b, o + k, none⟩ = some u := by
  have := Sl.cells h k u hu
  have e : (⟨b, o, none⟩ : Addr).add k = ⟨b, o + k, none⟩ := by unfold Addr.add; split <;> simp_all
  rw [e] at this
  exact this
theorem Sl.base {w : World} {k n : Nat} {v : Value} {xs : List Value} (h : Sl w k v n xs) (hn : 0 < n) : ∃ b o c, v = .slice (some ⟨b, o, none⟩) n c ∧ n ≤ c ∧ c ≤ maxLen := by
  obtain ⟨_, a, c, rfl, h2, h3, _, h6⟩ := h
  obtain ⟨b, o, rfl, _⟩ := h6 hn
  exact ⟨b, o, c, rfl, h2, h3⟩

set_option maxRecDepth 100000 in
set_option maxHeartbeats 2000000 in
theorem sameStrings_any {w : World} {x y : Value} {a b : List Bs} (hx : StrsAt w x a) (hy : StrsAt w y b) :
    Calls Try.prog 35 #[x, y] w fun e w' => e = .returned (.bool (decide (a = b))) ∧ Keep (fun _ => False) w w' := by
  obtain ⟨xa, xc, rfl⟩ : ∃ p c, x = .slice p a.length c := let ⟨_, p, c, e, _⟩ := hx; ⟨p, c, e⟩
  obtain ⟨ya, yc, rfl⟩ : ∃ p c, y = .slice p b.length c := let ⟨_, p, c, e, _⟩ := hy; ⟨p, c, e⟩
  have HX := Lib.hid hx; have HY := Lib.hid hy; clear hx hy
  by_cases hl : a.length = b.length
  · obtain ⟨N, hN⟩ : ∃ N : Nat, N = a.length := ⟨_, rfl⟩
    have HL := Lib.hid hl; have HN := Lib.hid hN
    rw [← hl, ← hN]
    rw [← hN] at HX
    rw [← hl, ← hN] at HY
    clear hl hN
    go_enter Try.func35, Try.ntmps35
    go_wp2
    go_loopg [5] N (fun g v5 wr => ∃ k q : Nat, k ≤ N ∧ g = N - k ∧ v5 = .int .i64 k ∧ wr = w.drewN q ∧ a.take k = b.take k)
    case atStart => exact ⟨0, 0, Nat.zero_le _, rfl, rfl, rfl, by simp⟩
    case round =>
      obtain ⟨k, q, hk, hg, rfl, rfl, heq⟩ := hrel
      by_cases hlt : k < N
      · obtain ⟨u, hu⟩ : ∃ u, a[k]? = some u := ⟨_, List.getElem?_eq_getElem (by rw [← HN.out]; exact hlt)⟩
        obtain ⟨v, hv⟩ : ∃ v, b[k]? = some v := ⟨_, List.getElem?_eq_getElem (by rw [← HL.out, ← HN.out]; exact hlt)⟩
        have hX : Sl w 1 (.slice xa N xc) N (a.map strV) := by have := HX.out; unfold StrsAt at this; rw [← HN.out] at this; exact this
        have hY : Sl w 1 (.slice ya N yc) N (b.map strV) := by have := HY.out; unfold StrsAt at this; rw [← HL.out, ← HN.out] at this; exact this
        obtain ⟨xb, xo, xc', ex, x1, x2⟩ := Sl.base hX (by omega)
        obtain ⟨yb, yo, yc', ey, y1, y2⟩ := Sl.base hY (by omega)
        cases ex; cases ey
        have cx : w.cell? ⟨xb, xo + k, none⟩ = some (strV u) := Sl.at1 hX (by simp [hu])
        have cy : w.cell? ⟨yb, yo + k, none⟩ = some (strV v) := Sl.at1 hY (by simp [hv])
        unfold maxLen at x2
        have HG := Lib.hid hg; have HE := Lib.hid heq; have HU := Lib.hid hu; have HV := Lib.hid hv
        clear hg heq hu hv hX hY HX HY
        have i1 : (0 : Int) ≤ k := by omega
        have i2 : (k : Int) < N := by omega
        by_cases huv : u = v
        · subst huv
          go_wp2_with fail
          go_quiet (fail)
          go_wp2
          go_roundg (N - (k + 1))
          case measure => have := HG.out; omega
          case rel => exact ⟨k + 1, q + nq, by omega, rfl, by go_num, rfl, take_more HU.out HV.out HE.out⟩
        · have hne : (!(u == v)) = true := by simp [huv]
          have hab : decide (a = b) = false := by simp [take_ne HU.out HV.out huv]
          have HF := Lib.hid hab; clear hab
          go_wp2_with fail
          go_quiet (fail)
          go_wp2
          go_ret
          exact ⟨by rw [HF.out]; rfl, ((Keep.refl _ _).drewN q).drewN nq⟩
      · have hkN : k = N := by omega
        have hab : decide (a = b) = true := by simp [take_all_eq HL.out (by rw [hkN]; exact HN.out) heq]
        have HF := Lib.hid hab
        clear hab heq hg hkN
        go_wp2
        go_ret
        exact ⟨by rw [HF.out]; rfl, (Keep.refl _ _).drewN q⟩
  · have hab : decide (a = b) = false := by simp; rintro rfl; exact hl rfl
    have hl' : ¬ (a.length : Int) = b.length := by omega
    have HF := Lib.hid hab; clear hab hl HX HY
    go_enter Try.func35, Try.ntmps35
    go_wp2
    go_ret
    exact ⟨by rw [HF.out]; rfl, Keep.refl _ _⟩
set_option maxRecDepth 100000 in
set_option maxHeartbeats 2000000 in
theorem sameInts_any {w : World} {x y : Value} {a b : List Int} (hx : IntsAt w x a) (hy : IntsAt w y b) :
    Calls Try.prog 37 #[x, y] w fun e w' => e = .returned (.bool (decide (a = b))) ∧ Keep (fun _ => False) w w' := by
  obtain ⟨xa, xc, rfl⟩ : ∃ p c, x = .slice p a.length c := let ⟨_, p, c, e, _⟩ := hx; ⟨p, c, e⟩
  obtain ⟨ya, yc, rfl⟩ : ∃ p c, y = .slice p b.length c := let ⟨_, p, c, e, _⟩ := hy; ⟨p, c, e⟩
  have HX := Lib.hid hx; have HY := Lib.hid hy; clear hx hy
  by_cases hl : a.length = b.length
  · obtain ⟨N, hN⟩ : ∃ N : Nat, N = a.length := ⟨_, rfl⟩
    have HL := Lib.hid hl; have HN := Lib.hid hN
    rw [← hl, ← hN]
    rw [← hN] at HX
    rw [← hl, ← hN] at HY
    clear hl hN
    go_enter Try.func37, Try.ntmps37
    go_wp2
    go_loopg [5] N (fun g v5 wr => ∃ k q : Nat, k ≤ N ∧ g = N - k ∧ v5 = .int .i64 k ∧ wr = w.drewN q ∧ a.take k = b.take k)
    case atStart => exact ⟨0, 0, Nat.zero_le _, rfl, rfl, rfl, by simp⟩
    case round =>
      obtain ⟨k, q, hk, hg, rfl, rfl, heq⟩ := hrel
      by_cases hlt : k < N
      · obtain ⟨u, hu⟩ : ∃ u, a[k]? = some u := ⟨_, List.getElem?_eq_getElem (by rw [← HN.out]; exact hlt)⟩
        obtain ⟨v, hv⟩ : ∃ v, b[k]? = some v := ⟨_, List.getElem?_eq_getElem (by rw [← HL.out, ← HN.out]; exact hlt)⟩
        have hX : Sl w 1 (.slice xa N xc) N (a.map (.int .i64)) := by have := HX.out; unfold IntsAt at this; rw [← HN.out] at this; exact this
        have hY : Sl w 1 (.slice ya N yc) N (b.map (.int .i64)) := by have := HY.out; unfold IntsAt at this; rw [← HL.out, ← HN.out] at this; exact this
        obtain ⟨xb, xo, xc', ex, x1, x2⟩ := Sl.base hX (by omega)
        obtain ⟨yb, yo, yc', ey, y1, y2⟩ := Sl.base hY (by omega)
        cases ex; cases ey
        have cx : w.cell? ⟨xb, xo + k, none⟩ = some (.int .i64 u) := Sl.at1 hX (by simp [hu])
        have cy : w.cell? ⟨yb, yo + k, none⟩ = some (.int .i64 v) := Sl.at1 hY (by simp [hv])
        unfold maxLen at x2
        have HG := Lib.hid hg; have HE := Lib.hid heq; have HU := Lib.hid hu; have HV := Lib.hid hv
        clear hg heq hu hv hX hY HX HY
        have i1 : (0 : Int) ≤ k := by omega
        have i2 : (k : Int) < N := by omega
        by_cases huv : u = v
        · subst huv
          go_wp2_with fail
          go_quiet (fail)
          go_wp2
          go_roundg (N - (k + 1))
          case measure => have := HG.out; omega
          case rel => exact ⟨k + 1, q + nq, by omega, rfl, by go_num, rfl, take_more HU.out HV.out HE.out⟩
        · have hne : (u != v) = true := by simp [huv]
          have hab : decide (a = b) = false := by simp [take_ne HU.out HV.out huv]
          have HF := Lib.hid hab; clear hab
          go_wp2_with fail
          go_quiet (fail)
          go_wp2
          go_ret
          exact ⟨by rw [HF.out]; rfl, ((Keep.refl _ _).drewN q).drewN nq⟩
      · have hkN : k = N := by omega
        have hab : decide (a = b) = true := by simp [take_all_eq HL.out (by rw [hkN]; exact HN.out) heq]
        have HF := Lib.hid hab
        clear hab heq hg hkN
        go_wp2
        go_ret
        exact ⟨by rw [HF.out]; rfl, (Keep.refl _ _).drewN q⟩
  · have hab : decide (a = b) = false := by simp; rintro rfl; exact hl rfl
    have hl' : ¬ (a.length : Int) = b.length := by omega
    have HF := Lib.hid hab; clear hab hl HX HY
    go_enter Try.func37, Try.ntmps37
    go_wp2
    go_ret
    exact ⟨by rw [HF.out]; rfl, Keep.refl _ _⟩
end Go.Proofs.Ytgnigkghkldcfaa
