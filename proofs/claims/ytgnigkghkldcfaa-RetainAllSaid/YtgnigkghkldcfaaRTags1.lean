/-
  Plain laws for coldstorelaw19.RetainTags: times under a mask, the greatest of them.
-/
import Derived.Test.YtgnigkghkldcfaaRetLaw
namespace Go.Proofs.Ytgnigkghkldcfaa
open Go.RowKit Go.Proofs Go.Lib Go.Maps Go.Sort Go.Shelf

def maskS (s : SnapR) : SnapR := { s with time := s.time % 1125899906842624 }
def maskL (L : List SnapR) (k : Nat) : List SnapR := (L.take k).map maskS
theorem maskL_step {L : List SnapR} {k : Nat} {s : SnapR} (h : L[k]? = some s) : maskL L (k + 1) = maskL L k ++ [maskS s] := by
  unfold maskL; rw [take_snoc h, List.map_append]; rfl
theorem maskL_len (L : List SnapR) {k : Nat} (h : k ≤ L.length) : (maskL L k).length = k := by simp [maskL, h]
theorem mask_time (s : SnapR) : 0 ≤ (maskS s).time ∧ (maskS s).time ≤ 1125899906842623 := by
  unfold maskS
  have h1 := Int.emod_nonneg s.time (show (1125899906842624 : Int) ≠ 0 by decide)
  have h2 := Int.emod_lt_of_pos s.time (show (0 : Int) < 1125899906842624 by decide)
  dsimp only
  omega
theorem maskL_mem {L : List SnapR} {k : Nat} {s : SnapR} (h : s ∈ maskL L k) : 0 ≤ s.time ∧ s.time ≤ 1125899906842623 := by
  obtain ⟨x, _, rfl⟩ := List.mem_map.1 h
  exact mask_time x
/-- the greatest time so far -/
structure TopI (L : List SnapR) (t : Int) : Prop where
  lo : 0 ≤ t
  hi : t ≤ 1125899906842623
  all : ∀ s ∈ L, s.time ≤ t
  one : L = [] ∨ ∃ s ∈ L, s.time = t
theorem TopI.step {L : List SnapR} {t : Int} {s : SnapR} (h : TopI L t) (h1 : 0 ≤ s.time) (h2 : s.time ≤ 1125899906842623) (h0 : L = [] → t = 0) : TopI (L ++ [s]) (max t s.time) := by
  have hlo := h.lo
  have hhi := h.hi
  refine ⟨by omega, by omega, fun x hx => ?_, .inr ?_⟩
  · rcases List.mem_append.1 hx with hx | hx
    · have := h.all x hx; omega
    · simp at hx; subst hx; omega
  · by_cases e : t ≤ s.time
    · exact ⟨s, by simp, by omega⟩
    · rcases h.one with h3 | ⟨x, hx, e2⟩
      · have := h0 h3; omega
      · exact ⟨x, List.mem_append_left _ hx, by omega⟩
theorem mask_ok {L : List SnapR} {k : Nat} (h : ∀ s ∈ L, SnapOK s) : ∀ s ∈ maskL L k, SnapOK s := by
  intro s hs
  obtain ⟨x, hx, rfl⟩ := List.mem_map.1 hs
  obtain ⟨h1, h2, h3, h4⟩ := h x (List.mem_of_mem_take hx)
  have := mask_time x
  exact ⟨h1, by unfold In64; omega, h3, h4⟩
theorem maskL_at {L : List SnapR} {k i : Nat} {s : SnapR} (hi : i < k) (h : L[i]? = some s) : (maskL L k)[i]? = some (maskS s) := by
  unfold maskL
  rw [List.getElem?_map, List.getElem?_take, if_pos hi, h]; rfl

section
variable {L : List SnapR} {P : List Nat} {D : List Int} (hP : Places L P)
include hP
theorem tag_at {tag : Bs} (ht : tag ≠ []) {i : Nat} {s : SnapR} (h : L[i]? = some s) : (keepB L P ⟨0, 0, 0, 0, tag⟩ D)[i]? = some (s.tag == tag) := by
  have hi := (List.getElem?_eq_some_iff.1 h).1
  obtain ⟨k, hk, _, e2, e⟩ := kept_of (p := ⟨0, 0, 0, 0, tag⟩) (D := D) hP hi
  rw [e, kp_tag (by rw [rowOf_len hP]; exact hk) ht, e2, List.getElem!_eq_getElem?_getD, h]; rfl
theorem near_at {w t : Int} (h1 : ∀ s ∈ L, s.time ≤ t) (h2 : ∃ s ∈ L, s.time = t) {i : Nat} {s : SnapR} (h : L[i]? = some s) : (keepB L P ⟨0, 0, 0, w, []⟩ D)[i]? = some (decide (0 < w) && decide (t - s.time < w)) := by
  have hi := (List.getElem?_eq_some_iff.1 h).1
  obtain ⟨k, hk, _, e2, e⟩ := kept_of (p := ⟨0, 0, 0, w, []⟩) (D := D) hP hi
  have e3 := top_eq hP h1 h2
  rw [e, kp_near (by rw [rowOf_len hP]; exact hk), e2, rowOf_len hP, e3, List.getElem!_eq_getElem?_getD, h]; rfl
theorem both_at {w t : Int} {tag : Bs} (ht : tag ≠ []) (h1 : ∀ s ∈ L, s.time ≤ t) (h2 : ∃ s ∈ L, s.time = t) {i : Nat} {s : SnapR} (h : L[i]? = some s) :
    (keepB L P ⟨0, 0, 0, w, tag⟩ D)[i]? = some (s.tag == tag || (decide (0 < w) && decide (t - s.time < w))) := by
  have hi := (List.getElem?_eq_some_iff.1 h).1
  obtain ⟨k, hk, _, e2, e⟩ := kept_of (p := ⟨0, 0, 0, w, tag⟩) (D := D) hP hi
  have e3 := top_eq hP h1 h2
  rw [e, kp_both (by rw [rowOf_len hP]; exact hk) ht, e2, rowOf_len hP, e3, List.getElem!_eq_getElem?_getD, h]; rfl
end
end Go.Proofs.Ytgnigkghkldcfaa
