/-
  Merging in place (slices.symMergeCmpFunc, rotateCmpFunc, swapRangeCmpFunc, stableCmpFunc of few elements): plain laws on arrays, without the program.
-/
import Derived.Sort.Lot0
import Derived.Sort.LotA
import Derived.Sort.WalkA
import Derived.Test.YtgnigkghkldcfaaBase0
import Derived.Test.YtgnigkghkldcfaaShelf
import Derived.Shelf.SlSortCmp.Kit1
import Derived.Deep.LoopGhost
import Derived.BigRegion

/-! Merging in place (slices.symMergeCmpFunc, rotateCmpFunc, swapRangeCmpFunc, stableCmpFunc of few elements): plain laws on arrays, without the program. -/
namespace Go.Proofs.Ytgnigkghkldcfaa
open Go.Sort

section
variable {α : Type} [Inhabited α]

/-- rising by le from a on, up to b -/
def Srt (le : α → α → Prop) (a b : Nat) (d : Array α) : Prop := ∀ i j, a ≤ i → i < j → j < b → le d[i]! d[j]!

def swrF (f : Nat → α) (a b n x : Nat) : α := if a ≤ x ∧ x < a + n then f (x - a + b) else if b ≤ x ∧ x < b + n then f (x - b + a) else f x
def rotF (f : Nat → α) (a m b x : Nat) : α := if a ≤ x ∧ x < a + (b - m) then f (x - a + m) else if a + (b - m) ≤ x ∧ x < b then f (x - (b - m)) else f x

/-- n places from a on exchanged with those from b on -/
structure Swr (a b n : Nat) (d d' : Array α) : Prop where
  size : d'.size = d.size
  get : ∀ x, d'[x]! = swrF (fun i => d[i]!) a b n x
  perm : ∀ lo hi, lo ≤ a → b + n ≤ hi → hi ≤ d.size → PermIn lo hi d d'

theorem Swr.zero (a b : Nat) (d : Array α) : Swr a b 0 d d :=
  ⟨rfl, fun x => by unfold swrF; rw [if_neg (by omega), if_neg (by omega)], fun _ _ _ _ _ => permIn_refl _ _ _⟩
theorem Swr.step {a b n : Nat} {d d' : Array α} (h : Swr a b n d d') (hab : a + n < b) (hb : b + n < d.size) : Swr a b (n + 1) d (swp d' (a + n) (b + n)) := by
  refine ⟨by rw [size_swp, h.size], fun x => ?_, fun lo hi h1 h2 h3 => permIn_trans _ _ _ _ _ (h.perm lo hi h1 (by omega) h3) (swp_permIn _ _ _ _ _ (by omega) (by omega) (by omega) (by omega) (by rw [h.size]; exact h3))⟩
  by_cases h1 : x = b + n
  · subst h1
    rw [swp_right _ _ _ (by rw [h.size]; omega), h.get]
    unfold swrF
    rw [if_neg (by omega), if_neg (by omega), if_neg (by omega), if_pos (by omega)]
    congr 1 <;> omega
  · by_cases h2 : x = a + n
    · subst h2
      rw [swp_left _ _ _ (by rw [h.size]; omega) (by omega), h.get]
      unfold swrF
      rw [if_neg (by omega), if_neg (by omega), if_pos (by omega)]
      congr 1 <;> omega
    · rw [swp_other _ _ _ _ h2 h1, h.get]
      unfold swrF
      repeat' split
      all_goals first | (exfalso; omega) | rfl | (congr 1 <;> omega)

/-- what stands from m to b comes ahead of what stands from a to m -/
structure Rot (a m b : Nat) (d d' : Array α) : Prop where
  size : d'.size = d.size
  get : ∀ x, d'[x]! = rotF (fun i => d[i]!) a m b x
  perm : b ≤ d.size → PermIn a b d d'

theorem Rot.same_left (m b : Nat) (d : Array α) : Rot m m b d d :=
  ⟨rfl, fun x => by
    unfold rotF
    by_cases h : m ≤ x ∧ x < m + (b - m)
    · rw [if_pos h]; congr 1 <;> omega
    · rw [if_neg h, if_neg (by omega)], fun _ => permIn_refl _ _ _⟩
theorem Rot.same_right (a m : Nat) (d : Array α) : Rot a m m d d :=
  ⟨rfl, fun x => by
    unfold rotF
    rw [if_neg (by omega)]
    by_cases h : a + (m - m) ≤ x ∧ x < m
    · rw [if_pos h]; congr 1 <;> omega
    · rw [if_neg h], fun _ => permIn_refl _ _ _⟩

/-- the loop of a rotation: i places ahead of m, j behind it, are still to be turned -/
structure RotI (a m b i j : Nat) (d d' : Array α) : Prop where
  size : d'.size = d.size
  get : ∀ x, rotF (fun k => d'[k]!) (m - i) m (m + j) x = rotF (fun k => d[k]!) a m b x
  perm : b ≤ d.size → PermIn a b d d'
theorem RotI.start {a m b : Nat} (d : Array α) (h1 : a ≤ m) (h2 : m ≤ b) : RotI a m b (m - a) (b - m) d d :=
  ⟨rfl, fun x => by rw [show m - (m - a) = a by omega, show m + (b - m) = b by omega], fun _ => permIn_refl _ _ _⟩
theorem RotI.gt {a m b i j : Nat} {d d' d2 : Array α} (h : RotI a m b i j d d') (hi : i ≤ m - a) (hj : j ≤ b - m) (h1 : a ≤ m) (h2 : m ≤ b) (hij : j < i) (hs : Swr (m - i) m j d' d2) : RotI a m b (i - j) j d d2 := by
  refine ⟨by rw [hs.size, h.size], fun x => ?_, fun hb => permIn_trans _ _ _ _ _ (h.perm hb) (hs.perm a b (by omega) (by omega) (by rw [h.size]; exact hb))⟩
  rw [← h.get x]
  unfold rotF
  simp only [hs.get, swrF]
  by_cases c1 : m - i ≤ x ∧ x < m - i + j
  · rw [if_neg (by omega), if_neg (by omega), if_pos c1, if_pos (by omega)]
  · by_cases c2 : m - i + j ≤ x ∧ x < m - i + j + j
    · rw [if_pos (by omega), if_neg (by omega), if_pos (by omega), if_neg (by omega), if_pos (by omega)]
      congr 1 <;> omega
    · by_cases c3 : m - i + j + j ≤ x ∧ x < m + j
      · rw [if_neg (by omega), if_pos (by omega), if_neg (by omega), if_neg (by omega), if_neg (by omega), if_pos (by omega)]
      · rw [if_neg (by omega), if_neg (by omega), if_neg (by omega), if_neg (by omega), if_neg (by omega), if_neg (by omega)]
theorem RotI.lt {a m b i j : Nat} {d d' d2 : Array α} (h : RotI a m b i j d d') (hi : i ≤ m - a) (hj : j ≤ b - m) (h1 : a ≤ m) (h2 : m ≤ b) (hij : i < j) (hs : Swr (m - i) (m + j - i) i d' d2) : RotI a m b i (j - i) d d2 := by
  refine ⟨by rw [hs.size, h.size], fun x => ?_, fun hb => permIn_trans _ _ _ _ _ (h.perm hb) (hs.perm a b (by omega) (by omega) (by rw [h.size]; exact hb))⟩
  rw [← h.get x]
  unfold rotF
  simp only [hs.get, swrF]
  by_cases c1 : m - i ≤ x ∧ x < m - i + (j - i)
  · rw [if_pos (by omega), if_neg (by omega), if_neg (by omega), if_pos (by omega)]
  · by_cases c2 : m - i + (j - i) ≤ x ∧ x < m + (j - i)
    · rw [if_neg (by omega), if_pos (by omega), if_pos (by omega), if_pos (by omega)]
      congr 1 <;> omega
    · by_cases c3 : m + (j - i) ≤ x ∧ x < m + j
      · rw [if_neg (by omega), if_neg (by omega), if_neg (by omega), if_pos (by omega), if_neg (by omega), if_pos (by omega)]
        congr 1 <;> omega
      · rw [if_neg (by omega), if_neg (by omega), if_neg (by omega), if_neg (by omega), if_neg (by omega), if_neg (by omega)]
theorem RotI.done {a m b i : Nat} {d d' d2 : Array α} (h : RotI a m b i i d d') (hi : i ≤ m - a) (hj : i ≤ b - m) (h1 : a ≤ m) (h2 : m ≤ b) (hs : Swr (m - i) m i d' d2) : Rot a m b d d2 := by
  refine ⟨by rw [hs.size, h.size], fun x => ?_, fun hb => permIn_trans _ _ _ _ _ (h.perm hb) (hs.perm a b (by omega) (by omega) (by rw [h.size]; exact hb))⟩
  rw [← h.get x, hs.get]
  unfold rotF swrF
  by_cases c1 : m - i ≤ x ∧ x < m - i + i
  · rw [if_pos c1, if_pos (by omega)]
  · by_cases c2 : m ≤ x ∧ x < m + i
    · rw [if_neg c1, if_pos c2, if_neg (by omega), if_pos (by omega)]
      congr 1 <;> omega
    · rw [if_neg c1, if_neg c2, if_neg (by omega), if_neg (by omega)]

/-- both runs merged -/
structure Mrg (le : α → α → Prop) (a b : Nat) (d d' : Array α) : Prop where
  perm : PermIn a b d d'
  srt : Srt le a b d'

/-- what a merge asks: both runs are rising, and what tells which of two goes ahead is right between them -/
structure Runs (lt : α → α → Bool) (le : α → α → Prop) (a m b : Nat) (d : Array α) : Prop where
  left : Srt le a m d
  right : Srt le m b d
  yes : ∀ i j, a ≤ i → i < m → m ≤ j → j < b → lt d[j]! d[i]! = true → le d[j]! d[i]!
  no : ∀ i j, a ≤ i → i < m → m ≤ j → j < b → lt d[j]! d[i]! = false → le d[i]! d[j]!

variable {lt : α → α → Bool} {le : α → α → Prop} (tr : ∀ x y z, le x y → le y z → le x z)
include tr
/-- one element ahead: it goes behind those that are less -/
theorem Runs.first {a i b : Nat} {d d' : Array α} (h : Runs lt le a (a + 1) b d) (hi : a + 1 ≤ i ∧ i ≤ b) (hb : b ≤ d.size) (h1 : i = a + 1 ∨ lt d[i - 1]! d[a]! = true) (h2 : i = b ∨ lt d[i]! d[a]! = false) (hr : Rot a (a + 1) i d d') : Mrg le a b d d' := by
  have hp := permIn_mono _ _ _ _ a b (Nat.le_refl _) hi.2 hb (hr.perm (by omega))
  refine ⟨hp, ?_⟩
  have lo : ∀ k, a + 1 ≤ k → k < i → le d[k]! d[a]! := fun k k1 k2 => by
    rcases h1 with h1 | h1
    · omega
    · have := h.yes a (i - 1) (by omega) (by omega) (by omega) (by omega) h1
      by_cases e : k = i - 1
      · rw [e]; exact this
      · exact tr _ _ _ (h.right k (i - 1) k1 (by omega) (by omega)) this
  have hi' : ∀ k, i ≤ k → k < b → le d[a]! d[k]! := fun k k1 k2 => by
    rcases h2 with h2 | h2
    · omega
    · have := h.no a i (by omega) (by omega) (by omega) (by omega) h2
      by_cases e : k = i
      · rw [e]; exact this
      · exact tr _ _ _ this (h.right i k (by omega) (by omega) (by omega))
  intro x y hx hxy hy
  have g1 : ∀ k, a ≤ k → k < i - 1 → d'[k]! = d[k + 1]! := fun k k1 k2 => by rw [hr.get]; unfold rotF; rw [if_pos (by omega)]; congr 1 <;> omega
  have g2 : d'[i - 1]! = d[a]! := by rw [hr.get]; unfold rotF; rw [if_neg (by omega), if_pos (by omega)]; congr 1 <;> omega
  have g3 : ∀ k, i ≤ k → d'[k]! = d[k]! := fun k k1 => by rw [hr.get]; unfold rotF; rw [if_neg (by omega), if_neg (by omega)]
  by_cases c1 : x < i - 1
  · rw [g1 x hx c1]
    by_cases c2 : y < i - 1
    · rw [g1 y (by omega) c2]; exact h.right _ _ (by omega) (by omega) (by omega)
    · by_cases c3 : y = i - 1
      · rw [c3, g2]; exact lo _ (by omega) (by omega)
      · rw [g3 y (by omega)]; exact h.right _ _ (by omega) (by omega) (by omega)
  · by_cases c3 : x = i - 1
    · rw [c3, g2, g3 y (by omega)]; exact hi' _ (by omega) hy
    · rw [g3 x (by omega), g3 y (by omega)]; exact h.right _ _ (by omega) (by omega) (by omega)
/-- one element behind: it goes ahead of those that it is less than -/
theorem Runs.last {a i m : Nat} {d d' : Array α} (h : Runs lt le a m (m + 1) d) (hi : a ≤ i ∧ i ≤ m) (hb : m + 1 ≤ d.size) (h1 : i = a ∨ lt d[m]! d[i - 1]! = false) (h2 : i = m ∨ lt d[m]! d[i]! = true) (hr : Rot i m (m + 1) d d') : Mrg le a (m + 1) d d' := by
  have hp := permIn_mono _ _ _ _ a (m + 1) hi.1 (Nat.le_refl _) hb (hr.perm hb)
  refine ⟨hp, ?_⟩
  have lo : ∀ k, a ≤ k → k < i → le d[k]! d[m]! := fun k k1 k2 => by
    rcases h1 with h1 | h1
    · omega
    · have := h.no (i - 1) m (by omega) (by omega) (by omega) (by omega) h1
      by_cases e : k = i - 1
      · rw [e]; exact this
      · exact tr _ _ _ (h.left k (i - 1) k1 (by omega) (by omega)) this
  have hi' : ∀ k, i ≤ k → k < m → le d[m]! d[k]! := fun k k1 k2 => by
    rcases h2 with h2 | h2
    · omega
    · have := h.yes i m (by omega) (by omega) (by omega) (by omega) h2
      by_cases e : k = i
      · rw [e]; exact this
      · exact tr _ _ _ this (h.left i k (by omega) (by omega) (by omega))
  intro x y hx hxy hy
  have g1 : ∀ k, k < i → d'[k]! = d[k]! := fun k k1 => by rw [hr.get]; unfold rotF; rw [if_neg (by omega), if_neg (by omega)]
  have g2 : d'[i]! = d[m]! := by rw [hr.get]; unfold rotF; rw [if_pos (by omega)]; congr 1 <;> omega
  have g3 : ∀ k, i < k → k ≤ m → d'[k]! = d[k - 1]! := fun k k1 k2 => by rw [hr.get]; unfold rotF; rw [if_neg (by omega), if_pos (by omega)]; congr 1 <;> omega
  by_cases c1 : x < i
  · rw [g1 x c1]
    by_cases c2 : y < i
    · rw [g1 y c2]; exact h.left _ _ (by omega) (by omega) (by omega)
    · by_cases c3 : y = i
      · rw [c3, g2]; exact lo _ hx c1
      · rw [g3 y (by omega) (by omega)]; exact h.left _ _ (by omega) (by omega) (by omega)
  · by_cases c3 : x = i
    · rw [c3, g2, g3 y (by omega) (by omega)]; exact hi' _ (by omega) (by omega)
    · rw [g3 x (by omega) (by omega), g3 y (by omega) (by omega)]; exact h.left _ _ (by omega) (by omega) (by omega)

/-- where both runs are parted, so that what is turned leaves two merges -/
structure Part (lt : α → α → Bool) (a m b mid s e : Nat) (d : Array α) : Prop where
  ge : a ≤ s
  sm : s ≤ m
  smid : s ≤ mid
  me : m ≤ e
  mide : mid ≤ e
  eb : e ≤ b
  sum : s + e = mid + m
  lo : s = a ∨ e = b ∨ lt d[e]! d[s - 1]! = false
  hi : s = m ∨ e = m ∨ lt d[e - 1]! d[s]! = true

omit tr in
theorem Part.start {a m b : Nat} (h1 : a < m) (h2 : m < b) {mid s r : Nat} (hm : mid = (a + b) / 2) (hs : s = if m > mid then mid + m - b else a) (hr : r = if m > mid then mid else m) : a ≤ s ∧ s ≤ r ∧ r ≤ m ∧ r ≤ mid ∧ mid + m - b ≤ s ∧ mid < b ∧ (s = a ∨ s = mid + m - b) ∧ (r = m ∨ mid + m - r = m) := by
  subst hm hs hr
  split <;> omega

/-- the first halves -/
theorem Part.rot {a m b mid s e : Nat} {d d' : Array α} (p : Part lt a m b mid s e d) (h : Runs lt le a m b d) (hb : b ≤ d.size) (hr : Rot s m e d d') :
    Runs lt le a s mid d' ∧ Runs lt le mid e b d' ∧ PermIn a b d d' ∧ ∀ x y, a ≤ x → x < mid → mid ≤ y → y < b → le d'[x]! d'[y]! := by
  have hp := permIn_mono _ _ _ _ a b p.ge p.eb hb (hr.perm (by have := p.eb; omega))
  obtain ⟨p1, p2, p3, p4, p5, p6, p7, plo, phi⟩ := p
  have g1 : ∀ k, k < s → d'[k]! = d[k]! := fun k k1 => by rw [hr.get]; unfold rotF; rw [if_neg (by omega), if_neg (by omega)]
  have g2 : ∀ k, s ≤ k → k < mid → d'[k]! = d[k - s + m]! := fun k k1 k2 => by rw [hr.get]; unfold rotF; rw [if_pos (by omega)]
  have g3 : ∀ k, mid ≤ k → k < e → d'[k]! = d[k - (mid - s)]! := fun k k1 k2 => by rw [hr.get]; unfold rotF; rw [if_neg (by omega), if_pos (by omega)]; congr 1 <;> omega
  have g4 : ∀ k, e ≤ k → d'[k]! = d[k]! := fun k k1 => by rw [hr.get]; unfold rotF; rw [if_neg (by omega), if_neg (by omega)]
  refine ⟨⟨fun i j hi hij hj => ?_, fun i j hi hij hj => ?_, fun i j i1 i2 j1 j2 hl => ?_, fun i j i1 i2 j1 j2 hl => ?_⟩, ⟨fun i j hi hij hj => ?_, fun i j hi hij hj => ?_, fun i j i1 i2 j1 j2 hl => ?_, fun i j i1 i2 j1 j2 hl => ?_⟩, hp, fun x y hx hxm hy hyb => ?_⟩
  · rw [g1 i (by omega), g1 j hj]; exact h.left _ _ hi hij (by omega)
  · rw [g2 i hi (by omega), g2 j (by omega) hj]; exact h.right _ _ (by omega) (by omega) (by omega)
  · rw [g2 j j1 j2, g1 i i2] at hl ⊢; exact h.yes _ _ i1 (by omega) (by omega) (by omega) hl
  · rw [g2 j j1 j2, g1 i i2] at hl; rw [g2 j j1 j2, g1 i i2]; exact h.no _ _ i1 (by omega) (by omega) (by omega) hl
  · rw [g3 i hi (by omega), g3 j (by omega) hj]; exact h.left _ _ (by omega) (by omega) (by omega)
  · rw [g4 i hi, g4 j (by omega)]; exact h.right _ _ (by omega) (by omega) (by omega)
  · rw [g4 j j1, g3 i i1 i2] at hl ⊢; exact h.yes _ _ (by omega) (by omega) (by omega) (by omega) hl
  · rw [g4 j j1, g3 i i1 i2] at hl; rw [g4 j j1, g3 i i1 i2]; exact h.no _ _ (by omega) (by omega) (by omega) (by omega) hl
  · by_cases cx : x < s
    · rw [g1 x cx]
      by_cases cy : y < e
      · rw [g3 y hy cy]; exact h.left _ _ hx (by omega) (by omega)
      · rw [g4 y (by omega)]
        rcases plo with q | q | q
        · omega
        · omega
        · have q1 := h.no (s - 1) e (by omega) (by omega) (by omega) (by omega) q
          have q2 : le d[x]! d[e]! := by
            by_cases ex : x = s - 1
            · rw [ex]; exact q1
            · exact tr _ _ _ (h.left x (s - 1) hx (by omega) (by omega)) q1
          by_cases ey : y = e
          · rw [ey]; exact q2
          · exact tr _ _ _ q2 (h.right e y (by omega) (by omega) (by omega))
    · rw [g2 x (by omega) hxm]
      by_cases cy : y < e
      · rw [g3 y hy cy]
        rcases phi with q | q | q
        · omega
        · omega
        · have q1 := h.yes s (e - 1) (by omega) (by omega) (by omega) (by omega) q
          have q2 : le d[x - s + m]! d[s]! := by
            by_cases ex : x - s + m = e - 1
            · rw [ex]; exact q1
            · exact tr _ _ _ (h.right _ (e - 1) (by omega) (by omega) (by omega)) q1
          by_cases ey : y - (mid - s) = s
          · rw [ey]; exact q2
          · exact tr _ _ _ q2 (h.left s _ (by omega) (by omega) (by omega))
      · rw [g4 y (by omega)]; exact h.right _ _ (by omega) (by omega) (by omega)

omit tr in
theorem Runs.of_perm {a m b : Nat} {d d' : Array α} (h : Runs lt le a m b d) (ham : a ≤ m) (hmb : m ≤ b) {lo hi : Nat} (hp : PermIn lo hi d d') (ho : hi ≤ a ∨ b ≤ lo) : Runs lt le a m b d' := by
  have g : ∀ k, a ≤ k → k < b → d'[k]! = d[k]! := fun k k1 k2 => hp.2.1 k (by omega)
  refine ⟨fun i j hi hij hj => ?_, fun i j hi hij hj => ?_, fun i j i1 i2 j1 j2 hl => ?_, fun i j i1 i2 j1 j2 hl => ?_⟩
  · rw [g i hi (by omega), g j (by omega) (by omega)]; exact h.left _ _ hi hij hj
  · rw [g i (by omega) (by omega), g j (by omega) (by omega)]; exact h.right _ _ hi hij hj
  · rw [g j (by omega) j2, g i i1 (by omega)] at hl ⊢; exact h.yes _ _ i1 i2 j1 j2 hl
  · rw [g j (by omega) j2, g i i1 (by omega)] at hl; rw [g j (by omega) j2, g i i1 (by omega)]; exact h.no _ _ i1 i2 j1 j2 hl

omit tr in
/-- a run alone is merged -/
theorem Runs.lone {a m b : Nat} {d : Array α} (h : Runs lt le a m b d) (hm : m = a ∨ m = b) : Mrg le a b d d := by
  refine ⟨permIn_refl _ _ _, ?_⟩
  rcases hm with e | e
  · have := h.right; rw [e] at this; exact this
  · have := h.left; rw [e] at this; exact this

omit tr in
/-- both halves merged -/
theorem Part.merged {a m b mid s e : Nat} {d d' d1 d2 : Array α} (p : Part lt a m b mid s e d) (hb : b ≤ d.size) (hp : PermIn a b d d') (hx : ∀ x y, a ≤ x → x < mid → mid ≤ y → y < b → le d'[x]! d'[y]!) (h1 : Mrg le a mid d' d1) (h2 : Mrg le mid b d1 d2) : Mrg le a b d d2 := by
  have := p.ge; have := p.smid; have := p.mide; have := p.eb
  have z1 : d'.size = d.size := hp.1
  have z2 : d1.size = d.size := h1.perm.1.trans z1
  have q1 := permIn_mono _ _ _ _ a b (Nat.le_refl _) (by omega) (by omega) h1.perm
  have q2 := permIn_mono _ _ _ _ a b (by omega) (Nat.le_refl _) (by omega) h2.perm
  refine ⟨permIn_trans _ _ _ _ _ (permIn_trans _ _ _ _ _ hp q1) q2, fun x y hxa hxy hyb => ?_⟩
  by_cases c1 : y < mid
  · rw [h2.perm.2.1 x (by omega), h2.perm.2.1 y (by omega)]; exact h1.srt x y hxa hxy c1
  · by_cases c2 : mid ≤ x
    · exact h2.srt x y c2 hxy hyb
    · rw [h2.perm.2.1 x (by omega)]
      refine permIn_all d1 d2 mid b (fun v => le d1[x]! v) (by omega) h2.perm (fun i i1 i2 => ?_) y (by omega) hyb
      rw [h1.perm.2.1 i (by omega)]
      exact permIn_all d' d1 a mid (fun v => le v d'[i]!) (by omega) h1.perm (fun k k1 k2 => hx k i k1 k2 i1 i2) x hxa (by omega)
end
end Go.Proofs.Ytgnigkghkldcfaa

/-! Sorting by insertion keeps what is right of two places; few elements sorted: plain laws on arrays, without the program. -/
namespace Go.Proofs.Ytgnigkghkldcfaa
open Go.Sort

section
variable {α : Type} [Inhabited α]

/-- what tells which of two goes ahead is right of each place and a later one -/
def Right2 (lt : α → α → Bool) (le : α → α → Prop) (a b : Nat) (d : Array α) : Prop :=
  ∀ i j, a ≤ i → i < j → j < b → (lt d[j]! d[i]! = true → le d[j]! d[i]!) ∧ (lt d[j]! d[i]! = false → le d[i]! d[j]!)

/-- within the inner loop: the element from place i stands at place j -/
structure InsJ (lt : α → α → Bool) (le : α → α → Prop) (a i j : Nat) (d dj : Array α) : Prop where
  size : dj.size = d.size
  x : dj[j]! = d[i]!
  lo : ∀ p q, a ≤ p → p < q → q < j → le dj[p]! dj[q]!
  hi : ∀ p q, j < p → p < q → q ≤ i → le dj[p]! dj[q]!
  cross : ∀ p q, a ≤ p → p < j → j < q → q ≤ i → le dj[p]! dj[q]!
  up : ∀ q, j < q → q ≤ i → le d[i]! dj[q]!
  ask : ∀ p, a ≤ p → p < j → (lt d[i]! dj[p]! = true → le d[i]! dj[p]!) ∧ (lt d[i]! dj[p]! = false → le dj[p]! d[i]!)
  perm : PermIn a (i + 1) d dj

variable {lt : α → α → Bool} {le : α → α → Prop} (tr : ∀ x y z, le x y → le y z → le x z)
include tr
theorem InsJ.stop {a i j : Nat} {d dj : Array α} (h : InsJ lt le a i j d dj) (hj : a ≤ j ∧ j ≤ i) (hs : j = a ∨ lt d[i]! dj[j - 1]! = false) : Srt le a (i + 1) dj := by
  have below : ∀ p, a ≤ p → p < j → le dj[p]! d[i]! := fun p h1 h2 => by
    rcases hs with hs | hs
    · omega
    · have h3 := (h.ask (j - 1) (by omega) (by omega)).2 hs
      by_cases e : p = j - 1
      · rw [e]; exact h3
      · exact tr _ _ _ (h.lo p (j - 1) h1 (by omega) (by omega)) h3
  intro p q hp hpq hq
  by_cases c1 : q < j
  · exact h.lo p q hp hpq c1
  · by_cases c2 : q = j
    · rw [c2, h.x]; exact below p hp (by omega)
    · by_cases c3 : p < j
      · exact h.cross p q hp c3 (by omega) (by omega)
      · by_cases c4 : p = j
        · rw [c4, h.x]; exact h.up q (by omega) (by omega)
        · exact h.hi p q (by omega) hpq (by omega)
omit tr in
theorem InsJ.step {a i j : Nat} {d dj : Array α} (h : InsJ lt le a i (j + 1) d dj) (hj : a ≤ j ∧ j + 1 ≤ i) (hi : i < d.size) (hl : lt d[i]! dj[j]! = true) : InsJ lt le a i j d (swp dj (j + 1) j) := by
  have z := h.size
  have g0 : (swp dj (j + 1) j)[j]! = d[i]! := by rw [swp_right _ _ _ (by omega), h.x]
  have g1 : (swp dj (j + 1) j)[j + 1]! = dj[j]! := swp_left _ _ _ (by omega) (by omega)
  have g2 : ∀ k, k ≠ j → k ≠ j + 1 → (swp dj (j + 1) j)[k]! = dj[k]! := fun k h1 h2 => swp_other _ _ _ _ h2 h1
  have hle := (h.ask j hj.1 (by omega)).1 hl
  refine ⟨by rw [size_swp, z], g0, fun p q h1 h2 h3 => ?_, fun p q h1 h2 h3 => ?_, fun p q h1 h2 h3 h4 => ?_, fun q h1 h2 => ?_, fun p h1 h2 => ?_, permIn_trans _ _ _ _ _ h.perm (swp_permIn _ _ _ _ _ (by omega) (by omega) hj.1 (by omega) (by omega))⟩
  · rw [g2 p (by omega) (by omega), g2 q (by omega) (by omega)]; exact h.lo p q h1 h2 (by omega)
  · by_cases c : p = j + 1
    · rw [c, g1, g2 q (by omega) (by omega)]; exact h.cross j q hj.1 (by omega) (by omega) h3
    · rw [g2 p (by omega) c, g2 q (by omega) (by omega)]; exact h.hi p q (by omega) h2 h3
  · rw [g2 p (by omega) (by omega)]
    by_cases c : q = j + 1
    · rw [c, g1]; exact h.lo p j h1 h2 (by omega)
    · rw [g2 q (by omega) c]; exact h.cross p q h1 (by omega) (by omega) h4
  · by_cases c : q = j + 1
    · rw [c, g1]; exact hle
    · rw [g2 q (by omega) c]; exact h.up q (by omega) h2
  · rw [g2 p (by omega) (by omega)]; exact h.ask p h1 (by omega)
theorem insInner_srt {a i : Nat} {d : Array α} (hi : i < d.size) : ∀ (j : Nat) (dj : Array α), a ≤ j → j ≤ i → InsJ lt le a i j d dj → Srt le a (i + 1) (insInner lt a j dj) ∧ PermIn a (i + 1) d (insInner lt a j dj)
  | 0, dj, h1, h2, h => by
    rw [insInner_stop lt a 0 dj (.inl (by omega))]
    exact ⟨h.stop tr ⟨h1, h2⟩ (.inl (by omega)), h.perm⟩
  | j + 1, dj, h1, h2, h => by
    by_cases c : a < j + 1
    · cases hl : lt d[i]! dj[j]! with
      | true =>
        rw [insInner_go lt a (j + 1) dj c (by rw [Nat.add_sub_cancel, h.x]; exact hl)]
        exact insInner_srt hi j _ (by omega) (by omega) (h.step ⟨by omega, h2⟩ hi hl)
      | false =>
        rw [insInner_stop lt a (j + 1) dj (.inr (by rw [Nat.add_sub_cancel, h.x]; exact hl))]
        exact ⟨h.stop tr ⟨h1, h2⟩ (.inr (by rw [Nat.add_sub_cancel]; exact hl)), h.perm⟩
    · rw [insInner_stop lt a (j + 1) dj (.inl (by omega))]
      exact ⟨h.stop tr ⟨h1, h2⟩ (.inl (by omega)), h.perm⟩

/-- ahead of the outer loop's round i -/
structure InsO (le : α → α → Prop) (a i : Nat) (d di : Array α) : Prop where
  srt : Srt le a i di
  perm : PermIn a i d di

omit tr in
theorem InsO.start {a b i : Nat} {d di : Array α} (h : InsO le a i d di) (hr : Right2 lt le a b d) (hi : i < b) (hb : b ≤ d.size) : InsJ lt le a i i di di := by
  have z : di.size = d.size := h.perm.1
  refine ⟨rfl, rfl, fun p q h1 h2 h3 => h.srt p q h1 h2 h3, fun p q h1 h2 h3 => by omega, fun p q h1 h2 h3 h4 => by omega, fun q h1 h2 => by omega, fun p h1 h2 => ?_, permIn_refl _ _ _⟩
  have e : di[i]! = d[i]! := h.perm.2.1 i (.inr (Nat.le_refl _))
  rw [e]
  exact permIn_all d di a i (fun v => (lt d[i]! v = true → le d[i]! v) ∧ (lt d[i]! v = false → le v d[i]!)) (by omega) h.perm (fun k k1 k2 => hr k i k1 k2 hi) p h1 h2
theorem insOuter_srt {a b : Nat} {d : Array α} (hr : Right2 lt le a b d) (hb : b ≤ d.size) : ∀ (n i : Nat) (di : Array α), b - i = n → a ≤ i → i ≤ b → InsO le a i d di → Srt le a b (insOuter lt a b i di) ∧ PermIn a b d (insOuter lt a b i di)
  | 0, i, di, hn, h1, h2, h => by
    obtain rfl : i = b := by omega
    rw [insOuter_stop _ _ _ _ _ (by omega)]
    exact ⟨h.srt, h.perm⟩
  | n + 1, i, di, hn, h1, h2, h => by
    rw [insOuter_go _ _ _ _ _ (by omega)]
    have z : di.size = d.size := h.perm.1
    obtain ⟨s, p⟩ := insInner_srt tr (by omega : i < di.size) i di h1 (Nat.le_refl _) (h.start hr (by omega) hb)
    exact insOuter_srt hr hb n (i + 1) _ (by omega) (by omega) (by omega) ⟨s, permIn_trans _ _ _ _ _ (permIn_mono _ _ _ _ a (i + 1) (Nat.le_refl _) (by omega) (by omega) h.perm) p⟩
/-- insertion: sorted, and what was equal stands as it stood -/
theorem insertion_srt {a b : Nat} {d : Array α} (hab : a ≤ b) (hb : b ≤ d.size) (hr : Right2 lt le a b d) : Mrg le a b d (insertionSort lt d a b) := by
  unfold insertionSort
  by_cases h : a + 1 ≤ b
  · obtain ⟨s, p⟩ := insOuter_srt tr hr hb (b - (a + 1)) (a + 1) d rfl (by omega) h ⟨fun i j h1 h2 h3 => by omega, permIn_refl _ _ _⟩
    exact ⟨p, s⟩
  · rw [insOuter_stop _ _ _ _ _ (by omega)]
    exact ⟨permIn_refl _ _ _, fun i j h1 h2 h3 => by omega⟩
omit tr in
theorem Right2.mono {a b a' b' : Nat} {d : Array α} (h : Right2 lt le a b d) (h1 : a ≤ a') (h2 : b' ≤ b) : Right2 lt le a' b' d := fun i j i1 i2 i3 => h i j (by omega) i2 (by omega)
omit tr in
theorem Right2.same {a b : Nat} {d d' : Array α} (h : Right2 lt le a b d) (hs : ∀ k, a ≤ k → k < b → d'[k]! = d[k]!) : Right2 lt le a b d' := fun i j i1 i2 i3 => by rw [hs i i1 (by omega), hs j (by omega) i3]; exact h i j i1 i2 i3
omit tr in
/-- two blocks, sorted each: what a merge asks -/
theorem Right2.runs {a m b : Nat} {d d1 d2 : Array α} (h : Right2 lt le a b d) (hb : b ≤ d.size) (h1 : Mrg le a m d d1) (h2 : Mrg le m b d1 d2) : Runs lt le a m b d2 := by
  have z1 : d1.size = d.size := h1.perm.1
  have z2 : d2.size = d1.size := h2.perm.1
  have left : ∀ k, a ≤ k → k < m → d2[k]! = d1[k]! := fun k k1 k2 => h2.perm.2.1 k (.inl k2)
  have right1 : ∀ k, m ≤ k → d1[k]! = d[k]! := fun k k1 => h1.perm.2.1 k (.inr k1)
  have both : ∀ i j, a ≤ i → i < m → m ≤ j → j < b → (lt d2[j]! d2[i]! = true → le d2[j]! d2[i]!) ∧ (lt d2[j]! d2[i]! = false → le d2[i]! d2[j]!) := fun i j i1 i2 j1 j2 => by
    rw [left i i1 i2]
    refine permIn_all d1 d2 m b (fun v => (lt v d1[i]! = true → le v d1[i]!) ∧ (lt v d1[i]! = false → le d1[i]! v)) (by omega) h2.perm (fun k k1 k2 => ?_) j j1 j2
    rw [right1 k k1]
    exact permIn_all d d1 a m (fun u => (lt d[k]! u = true → le d[k]! u) ∧ (lt d[k]! u = false → le u d[k]!)) (by omega) h1.perm (fun l l1 l2 => h l k l1 (by omega) k2) i i1 i2
  exact ⟨fun i j i1 i2 i3 => by rw [left i i1 (by omega), left j (by omega) i3]; exact h1.srt i j i1 i2 i3, h2.srt, fun i j i1 i2 j1 j2 => (both i j i1 i2 j1 j2).1, fun i j i1 i2 j1 j2 => (both i j i1 i2 j1 j2).2⟩
omit tr in
theorem Mrg.trans {a b a' b' : Nat} {d d1 d2 : Array α} (h1 : PermIn a' b' d d1) (h2 : Mrg le a b d1 d2) (ha : a ≤ a') (hb : b' ≤ b) (hs : b ≤ d.size) : Mrg le a b d d2 :=
  ⟨permIn_trans _ _ _ _ _ (permIn_mono _ _ _ _ a b ha hb hs h1) h2.perm, h2.srt⟩
end
end Go.Proofs.Ytgnigkghkldcfaa

/-! slices.swapRangeCmpFunc and rotateCmpFunc at ints: what is exchanged, and turned. -/
namespace Go.Proofs.Ytgnigkghkldcfaa
open Go.RowKit Go.Proofs Go.Lib Go.Sort Go.Shelf

def natV (f : Nat → Nat) (n : Nat) : Value := .int .i64 (f n)
theorem natV_one (f : Nat → Nat) : OneCell (natV f) := fun _ => rfl

set_option maxHeartbeats 4000000 in
set_option maxRecDepth 1000000 in
theorem swr_any {f : Nat → Nat} {blk off cap a b n : Nat} {d0 d : Array Nat} {w0 w : World} (R : Row1 (natV f) w0 blk off d0) (hs : d0.size = d.size) (S : SW (natV f) w0 blk off d w) (hab : a + n ≤ b) (hb : b + n ≤ d.size) (hsz : d.size < 4611686018427387904) (fv : Value) :
    Calls Try.prog 178 #[.slice (some ⟨blk, off, none⟩) d.size cap, .int .i64 a, .int .i64 b, .int .i64 n, fv] w fun e w' => e = .returned (.tuple #[]) ∧ ∃ d', Swr a b n d d' ∧ SW (natV f) w0 blk off d' w' := by
  have S0 : Aside (SW (natV f) w0 blk off d w) := S
  clear S
  go_enter Try.func178, Try.ntmps178
  go_wp2
  go_loopg [10] n (fun kx s10 wr => ∃ (i : Nat) (dk : Array Nat), s10 = .int .i64 i ∧ i ≤ n ∧ kx = n - i ∧ Hid (Swr a b i d dk) ∧ Aside (SW (natV f) w0 blk off dk wr))
  case atStart => exact ⟨0, d, rfl, Nat.zero_le _, rfl, Swr.zero a b d, S0⟩
  case round =>
    clear S0
    obtain ⟨i, dk, rfl, hi, rfl, HW, S1⟩ := hrel
    by_cases hlt : i < n
    · have hltz : (i : Int) < (n : Int) := by omega
      have hdz : Hid (dk.size = d.size) := HW.size
      go_wp2_with fail
      obtain ⟨iN, hiN⟩ : ∃ q, q = a + i := ⟨_, rfl⟩
      obtain ⟨jN, hjN⟩ : ∃ q, q = b + i := ⟨_, rfl⟩
      have ea1 : ((a : Int) + (i : Int)).toNat = iN := by omega
      have pa1 : (0 : Int) ≤ (a : Int) + (i : Int) := by omega
      have ba1 : (a : Int) + (i : Int) < (d.size : Int) := by omega
      have ra1 : IntKind.i64.wrap ((a : Int) + (i : Int)) = (a : Int) + (i : Int) := by rw [IntKind.wrap_i64]; omega
      have ec1 : ((b : Int) + (i : Int)).toNat = jN := by omega
      have pc1 : (0 : Int) ≤ (b : Int) + (i : Int) := by omega
      have bc1 : (b : Int) + (i : Int) < (d.size : Int) := by omega
      have rc1 : IntKind.i64.wrap ((b : Int) + (i : Int)) = (b : Int) + (i : Int) := by rw [IntKind.wrap_i64]; omega
      obtain ⟨x1, hx1⟩ : ∃ x, x = f dk[a + i]! := ⟨_, rfl⟩
      obtain ⟨y1, hy1⟩ : ∃ x, x = f dk[b + i]! := ⟨_, rfl⟩
      have S2 : Aside (SW (natV f) w0 blk off (swp dk (a + i) (b + i)) ((wr.setCell ⟨blk, off + iN, none⟩ (.int .i64 y1)).setCell ⟨blk, off + jN, none⟩ (.int .i64 x1)).drew) := by rw [hiN, hjN, hx1, hy1]; exact S1.out.swapped R (a + i) (b + i) (by rw [hdz.out]; omega) (by rw [hdz.out]; omega)
      have c1a : wr.cell? ⟨blk, off + iN, none⟩ = some (.int .i64 x1) := by rw [hiN, hx1]; exact S1.out.c1 R (by rw [hdz.out, hs]) (a + i) (by rw [hdz.out]; omega)
      have c1b : wr.cell? ⟨blk, off + jN, none⟩ = some (.int .i64 y1) := by rw [hjN, hy1]; exact S1.out.c1 R (by rw [hdz.out, hs]) (b + i) (by rw [hdz.out]; omega)
      have f1a := S1.out.f1 R (by rw [hdz.out, hs]) (a + i) (by rw [hdz.out]; omega)
      have f1b := S1.out.f1 R (by rw [hdz.out, hs]) (b + i) (by rw [hdz.out]; omega)
      obtain ⟨u1, c1c⟩ := S1.out.c2 R (by rw [hdz.out, hs]) (a + i) (b + i) (by rw [hdz.out]; omega) (by rw [hdz.out]; omega) (.int .i64 y1)
      rw [← hjN, ← hiN] at c1c
      rw [← hiN] at f1a
      rw [← hjN] at f1b
      clear S1 hx1 hy1 hiN hjN
      go_wp2_with fail
      go_big_region
      clear c1a c1b c1c f1a f1b
      generalize ((wr.setCell ⟨blk, off + iN, none⟩ (.int .i64 y1)).setCell ⟨blk, off + jN, none⟩ (.int .i64 x1)).drew = w2 at S2 ⊢
      clear ea1 ec1
      go_wp2
      go_roundg (n - (i + 1))
      case measure => omega
      case rel => exact ⟨i + 1, _, by go_num, by omega, rfl, HW.out.step (by omega) (by omega), S2⟩
    · have hltz : ¬ (i : Int) < (n : Int) := by omega
      obtain rfl : i = n := by omega
      go_wp2
      go_end0
      exact ⟨rfl, dk, HW.out, S1.out⟩
end Go.Proofs.Ytgnigkghkldcfaa

/-! slices.rotateCmpFunc at ints: what is turned. -/
namespace Go.Proofs.Ytgnigkghkldcfaa
open Go.RowKit Go.Proofs Go.Lib Go.Sort Go.Shelf

set_option maxHeartbeats 4000000 in
set_option maxRecDepth 1000000 in
theorem rot_any {f : Nat → Nat} {blk off cap a m b : Nat} {d0 d : Array Nat} {w0 w : World} (R : Row1 (natV f) w0 blk off d0) (hs : d0.size = d.size) (S : SW (natV f) w0 blk off d w) (ham : a < m) (hmb : m < b) (hb : b ≤ d.size) (hsz : d.size < 4611686018427387904) (g : Nat) (cb : Array Value) :
    Calls Try.prog 172 #[.slice (some ⟨blk, off, none⟩) d.size cap, .int .i64 a, .int .i64 m, .int .i64 b, .func (.func g) #[] cb] w fun e w' => e = .returned (.tuple #[]) ∧ ∃ d', Rot a m b d d' ∧ SW (natV f) w0 blk off d' w' := by
  have S0 : Aside (SW (natV f) w0 blk off d w) := S
  clear S
  have hij0 : (b : Int) - (m : Int) = ((b - m : Nat) : Int) := by omega
  have hij1 : (m : Int) - (a : Int) = ((m - a : Nat) : Int) := by omega
  have H0 := Lib.hid hij0; have H1 := Lib.hid hij1
  clear hij0 hij1
  go_enter Try.func172, Try.ntmps172
  go_wp2
  go_loopg [10, 11] (m + b) (fun kx s10 s11 wr => ∃ (i j : Nat) (dk : Array Nat), s10 = .int .i64 i ∧ s11 = .int .i64 j ∧ 0 < i ∧ 0 < j ∧ i ≤ m - a ∧ j ≤ b - m ∧ i + j ≤ kx ∧ Hid (RotI a m b i j d dk) ∧ Aside (SW (natV f) w0 blk off dk wr))
  case atStart => exact ⟨m - a, b - m, d, by rw [H1.out], by rw [H0.out], by omega, by omega, Nat.le_refl _, Nat.le_refl _, by omega, RotI.start d (by omega) (by omega), S0⟩
  case round =>
    clear S0
    obtain ⟨i, j, dk, rfl, rfl, hi, hj, him, hjm, hkx, HW, S1⟩ := hrel
    have hdz : Hid (dk.size = d.size) := HW.out.size
    have HKX := Lib.hid hkx; clear hkx
    by_cases heq : i = j
    · subst heq
      have hc : Calls Try.prog 178 #[.slice (some ⟨blk, off, none⟩) d.size cap, .int .i64 ((m - i : Nat) : Int), .int .i64 m, .int .i64 i, .func (.func g) #[] cb] wr fun e w' => e = .returned (.tuple #[]) ∧ ∃ d', Swr (m - i) m i dk d' ∧ SW (natV f) w0 blk off d' w' := by
        rw [← hdz.out]
        exact swr_any R (by rw [hdz.out, hs]) S1.out (by omega) (by rw [hdz.out]; omega) (by rw [hdz.out]; exact hsz) _
      have e1 : ((m - i : Nat) : Int) = (m : Int) - (i : Int) := by omega
      rw [e1] at hc
      have HC := Lib.hid hc
      clear hc e1 S1
      go_wp2_with fail
      refine HC.out.mono ?_
      rintro e w2 ⟨rfl, d2, hsw, S2⟩
      have HF := Lib.hid (HW.out.done him hjm (by omega) (by omega) hsw)
      have HS2 := Lib.hid S2
      clear hsw S2
      go_wp2
      go_end0
      exact ⟨rfl, d2, HF.out, HS2.out⟩
    · have hne : ((i : Int) == (j : Int)) = false := by simp; omega
      by_cases hgt : j < i
      · have hgz : (j : Int) < (i : Int) := by omega
        have hc : Calls Try.prog 178 #[.slice (some ⟨blk, off, none⟩) d.size cap, .int .i64 ((m - i : Nat) : Int), .int .i64 m, .int .i64 j, .func (.func g) #[] cb] wr fun e w' => e = .returned (.tuple #[]) ∧ ∃ d', Swr (m - i) m j dk d' ∧ SW (natV f) w0 blk off d' w' := by
          rw [← hdz.out]
          exact swr_any R (by rw [hdz.out, hs]) S1.out (by omega) (by rw [hdz.out]; omega) (by rw [hdz.out]; exact hsz) _
        have e1 : ((m - i : Nat) : Int) = (m : Int) - (i : Int) := by omega
        rw [e1] at hc
        have HC := Lib.hid hc
        clear hc e1 S1 heq
        go_wp2_with fail
        refine HC.out.mono ?_
        rintro e w2 ⟨rfl, d2, hsw, S2⟩
        have HF := Lib.hid (HW.out.gt him hjm (by omega) (by omega) hgt hsw)
        have HS2 : Aside (SW (natV f) w0 blk off d2 w2) := S2
        clear hsw S2
        go_wp2
        go_roundg (i - j + j)
        case measure => have := HKX.out; omega
        case rel => exact ⟨i - j, j, d2, by (congr 1; omega), rfl, by omega, hj, by omega, hjm, Nat.le_refl _, HF.out, HS2⟩
      · have hgz : ¬ (j : Int) < (i : Int) := by omega
        have hc : Calls Try.prog 178 #[.slice (some ⟨blk, off, none⟩) d.size cap, .int .i64 ((m - i : Nat) : Int), .int .i64 ((m + j - i : Nat) : Int), .int .i64 i, .func (.func g) #[] cb] wr fun e w' => e = .returned (.tuple #[]) ∧ ∃ d', Swr (m - i) (m + j - i) i dk d' ∧ SW (natV f) w0 blk off d' w' := by
          rw [← hdz.out]
          exact swr_any R (by rw [hdz.out, hs]) S1.out (by omega) (by rw [hdz.out]; omega) (by rw [hdz.out]; exact hsz) _
        have e1 : ((m - i : Nat) : Int) = (m : Int) - (i : Int) := by omega
        have e2 : ((m + j - i : Nat) : Int) = (m : Int) + (j : Int) - (i : Int) := by omega
        rw [e1, e2] at hc
        have HC := Lib.hid hc
        have hlt : i < j := by omega
        clear hc e1 e2 S1 heq
        go_wp2_with fail
        refine HC.out.mono ?_
        rintro e w2 ⟨rfl, d2, hsw, S2⟩
        have HF := Lib.hid (HW.out.lt him hjm (by omega) (by omega) hlt hsw)
        have HS2 : Aside (SW (natV f) w0 blk off d2 w2) := S2
        clear hsw S2
        go_wp2
        go_roundg (i + (j - i))
        case measure => have := HKX.out; omega
        case rel => exact ⟨i, j - i, d2, rfl, by (congr 1; omega), hi, by omega, him, by omega, Nat.le_refl _, HF.out, HS2⟩
end Go.Proofs.Ytgnigkghkldcfaa

/-! slices.symMergeCmpFunc at ints: one element ahead, or one behind. -/
namespace Go.Proofs.Ytgnigkghkldcfaa
open Go.RowKit Go.Proofs Go.Lib Go.Sort Go.Shelf

/-- an element carried up, place by place -/
structure Up (a k : Nat) (d d' : Array Nat) : Prop where
  size : d'.size = d.size
  get : ∀ x, d'[x]! = rotF (fun i => d[i]!) a (a + 1) (k + 1) x
  perm : ∀ hi, k < hi → hi ≤ d.size → PermIn a hi d d'
theorem Up.start (a : Nat) (d : Array Nat) : Up a a d d :=
  ⟨rfl, fun x => by
    unfold rotF
    rw [if_neg (by omega)]
    by_cases h : a + (a + 1 - (a + 1)) ≤ x ∧ x < a + 1
    · rw [if_pos h]; congr 1; omega
    · rw [if_neg h], fun _ _ _ => permIn_refl _ _ _⟩
theorem Up.step {a k : Nat} {d d' : Array Nat} (h : Up a k d d') (hak : a ≤ k) (hk : k + 1 < d.size) : Up a (k + 1) d (swp d' k (k + 1)) := by
  refine ⟨by rw [size_swp, h.size], fun x => ?_, fun hi h1 h2 => permIn_trans _ _ _ _ _ (h.perm hi (by omega) h2) (swp_permIn _ _ _ _ _ hak (by omega) (by omega) (by omega) (by rw [h.size]; exact h2))⟩
  by_cases h1 : x = k + 1
  · subst h1
    rw [swp_right _ _ _ (by rw [h.size]; omega), h.get]
    unfold rotF
    repeat' split
    all_goals first | (exfalso; omega) | rfl | (congr 1 <;> omega)
  · by_cases h2 : x = k
    · subst h2
      rw [swp_left _ _ _ (by rw [h.size]; omega) (by omega), h.get]
      unfold rotF
      repeat' split
      all_goals first | (exfalso; omega) | rfl | (congr 1 <;> omega)
    · rw [swp_other _ _ _ _ h2 h1, h.get]
      unfold rotF
      repeat' split
      all_goals first | (exfalso; omega) | rfl | (congr 1 <;> omega)
theorem Up.rot {a i : Nat} {d d' : Array Nat} (h : Up a (i - 1) d d') (hi : a + 1 ≤ i) : Rot a (a + 1) i d d' :=
  ⟨h.size, fun x => by rw [h.get x, show i - 1 + 1 = i by omega], fun hb => h.perm i (by omega) hb⟩

/-- an element carried down -/
structure Dn (k m : Nat) (d d' : Array Nat) : Prop where
  size : d'.size = d.size
  get : ∀ x, d'[x]! = rotF (fun i => d[i]!) k m (m + 1) x
  perm : ∀ lo, lo ≤ k → m + 1 ≤ d.size → PermIn lo (m + 1) d d'
theorem Dn.start (m : Nat) (d : Array Nat) : Dn m m d d :=
  ⟨rfl, fun x => by
    unfold rotF
    by_cases h : m ≤ x ∧ x < m + (m + 1 - m)
    · rw [if_pos h]; congr 1; omega
    · rw [if_neg h, if_neg (by omega)], fun _ _ _ => permIn_refl _ _ _⟩
theorem Dn.step {k m : Nat} {d d' : Array Nat} (h : Dn (k + 1) m d d') (hkm : k + 1 ≤ m) (hm : m < d.size) : Dn k m d (swp d' (k + 1) k) := by
  refine ⟨by rw [size_swp, h.size], fun x => ?_, fun lo h1 h2 => permIn_trans _ _ _ _ _ (h.perm lo (by omega) h2) (swp_permIn _ _ _ _ _ (by omega) (by omega) h1 (by omega) (by rw [h.size]; exact h2))⟩
  by_cases h1 : x = k
  · subst h1
    rw [swp_right _ _ _ (by rw [h.size]; omega), h.get]
    unfold rotF
    repeat' split
    all_goals first | (exfalso; omega) | rfl | (congr 1 <;> omega)
  · by_cases h2 : x = k + 1
    · subst h2
      rw [swp_left _ _ _ (by rw [h.size]; omega) (by omega), h.get]
      unfold rotF
      repeat' split
      all_goals first | (exfalso; omega) | rfl | (congr 1 <;> omega)
    · rw [swp_other _ _ _ _ h2 h1, h.get]
      unfold rotF
      repeat' split
      all_goals first | (exfalso; omega) | rfl | (congr 1 <;> omega)
theorem Dn.rot {k m : Nat} {d d' : Array Nat} (h : Dn k m d d') : Rot k m (m + 1) d d' := ⟨h.size, h.get, fun hb => h.perm k (Nat.le_refl _) hb⟩

set_option maxHeartbeats 4000000 in
set_option maxRecDepth 1000000 in
theorem sym_first {f : Nat → Nat} {blk off cap a m b : Nat} {d0 d : Array Nat} {w0 w : World} {cf : Nat → Nat → Int} {le : Nat → Nat → Prop} (tr : ∀ x y z, le x y → le y z → le x z) {g : Nat} {cb : Array Value}
    (eg : ∀ args w, (callFunc g args).run Try.prog w = .ok (.enter g args) w) (hcmp : CmpLays1 Try.prog g cb (natV f) cf blk off d0.size w0) (R : Row1 (natV f) w0 blk off d0) (hs : d0.size = d.size) (S : SW (natV f) w0 blk off d w)
    (hm : m = a + 1) (hab : m < b) (hb : b ≤ d.size) (hsz : d.size < 4611686018427387904) (hr : Runs (ltOf cf) le a m b d) :
    Calls Try.prog 155 #[.slice (some ⟨blk, off, none⟩) d.size cap, .int .i64 a, .int .i64 m, .int .i64 b, .func (.func g) #[] cb] w fun e w' => e = .returned (.tuple #[]) ∧ ∃ d', Mrg le a b d d' ∧ SW (natV f) w0 blk off d' w' := by
  have S0 : Aside (SW (natV f) w0 blk off d w) := S
  have HC : Aside _ := hcmp
  have mixed : Try.prog.follows Departure.mixedOrders = true := by kernel_rfl
  rw [hm] at hr
  have HR := Lib.hid hr
  have HT : Aside _ := tr
  have hm1 : ((m : Int) - (a : Int) == 1) = true := by simp; omega
  have hm2 : m ≤ a + 1 := by omega
  have hm3 : a + 1 ≤ m := by omega
  clear S hcmp hr tr hm
  go_enter Try.func155, Try.ntmps155
  go_wp2
  go_loopg [10, 11] (b - a) (fun kx s10 s11 wr => ∃ (i j : Nat), s10 = .int .i64 i ∧ s11 = .int .i64 j ∧ a + 1 ≤ i ∧ i ≤ j ∧ j ≤ b ∧ j - i ≤ kx ∧ Hid (i = a + 1 ∨ ltOf cf d[i - 1]! d[a]! = true) ∧ Hid (j = b ∨ ltOf cf d[j]! d[a]! = false) ∧ Aside (SW (natV f) w0 blk off d wr))
  case atStart => exact ⟨m, b, rfl, rfl, hm3, by omega, Nat.le_refl _, by omega, .inl (show m = a + 1 by omega), .inl rfl, S0⟩
  case round =>
    clear S0
    obtain ⟨i, j, rfl, rfl, hi, hij, hj, hkx, HI, HJ, S1⟩ := hrel
    by_cases hlt : i < j
    · have hltz : (i : Int) < (j : Int) := by omega
      obtain ⟨hN, hh⟩ : ∃ h, h = (i + j) / 2 := ⟨_, rfl⟩
      have ea1 : (((i : Int) + (j : Int)) / 2).toNat = hN := by omega
      have pa1 : (0 : Int) ≤ ((i : Int) + (j : Int)) / 2 := by omega
      have ba1 : ((i : Int) + (j : Int)) / 2 < (d.size : Int) := by omega
      have pc1 : (0 : Int) ≤ (a : Int) := by omega
      have bc1 : (a : Int) < (d.size : Int) := by omega
      have hzN : (((i : Int) + (j : Int)) / 2) = (hN : Int) := by omega
      obtain ⟨x1, hx1⟩ : ∃ x, x = f d[hN]! := ⟨_, rfl⟩
      obtain ⟨y1, hy1⟩ : ∃ x, x = f d[a]! := ⟨_, rfl⟩
      obtain ⟨cv, hcv⟩ : ∃ c, c = cf d[hN]! d[a]! := ⟨_, rfl⟩
      have l1a : ∀ n os, (grow (wr.drewN n) os).cell? ⟨blk, off + hN, none⟩ = some (.int .i64 x1) := fun n os => by rw [hx1]; exact S1.out.cl R hs.symm hN (by omega) n os
      have l1b : ∀ n os, (grow (wr.drewN n) os).cell? ⟨blk, off + a, none⟩ = some (.int .i64 y1) := fun n os => by rw [hy1]; exact S1.out.cl R hs.symm a (by omega) n os
      have hc1 : ∀ n os, Calls Try.prog g (#[.int .i64 x1, .int .i64 y1] ++ cb) (grow (wr.drewN n) os) fun e w' => e = .returned (.int .i64 cv) ∧ ∃ q os', w' = grow ((grow (wr.drewN n) os).drewN q) os' := by rw [hx1, hy1, hcv]; exact S1.out.cmp HC.out hs.symm _ _
      have hNi : i ≤ hN ∧ hN < j := by omega
      obtain ⟨hN1, hN2⟩ := hNi
      have HZN := Lib.hid hzN
      have HX : Hid (cv = cf d[hN]! d[a]!) := hcv
      clear hx1 hy1 hh hzN hcv
      by_cases hlv : cv < 0
      · have hd1 : decide (cv < 0) = true := decide_eq_true hlv
        have HLV := Lib.hid hlv
        go_wp2_with fail
        go_quiet_grown (first | (go_at_fn g; refine Calls.grown_of (hc1 _ _)))
        have S2 : Aside (SW (natV f) w0 blk off d (grow (wr.drewN nq) osq)) := S1.out.grown nq osq
        clear l1a l1b hc1 S1
        generalize grow (wr.drewN nq) osq = w2 at S2 ⊢
        clear nq osq ea1
        go_wp2
        go_roundg (j - (hN + 1))
        case measure => omega
        case rel => exact ⟨hN + 1, j, by rw [HZN.out]; go_num, rfl, by omega, by omega, hj, Nat.le_refl _, .inr (by rw [Nat.add_sub_cancel]; show decide (cf _ _ < 0) = true; rw [← HX.out]; exact decide_eq_true HLV.out), HJ, S2⟩
      · have hd1 : decide (cv < 0) = false := decide_eq_false hlv
        have HLV := Lib.hid hlv
        go_wp2_with fail
        go_quiet_grown (first | (go_at_fn g; refine Calls.grown_of (hc1 _ _)))
        have S2 : Aside (SW (natV f) w0 blk off d (grow (wr.drewN nq) osq)) := S1.out.grown nq osq
        clear l1a l1b hc1 S1
        generalize grow (wr.drewN nq) osq = w2 at S2 ⊢
        clear nq osq ea1
        go_wp2
        go_roundg (hN - i)
        case measure => omega
        case rel => exact ⟨i, hN, rfl, by rw [HZN.out], hi, hN1, by omega, Nat.le_refl _, HI, .inr (by show decide (cf _ _ < 0) = false; rw [← HX.out]; exact decide_eq_false (Int.not_lt.2 HLV.out)), S2⟩
    · obtain rfl : i = j := by omega
      have hltz : ¬ (i : Int) < (i : Int) := by omega
      have S2 : Aside (SW (natV f) w0 blk off d wr) := S1
      clear S1 hkx
      go_wp2
      obtain ⟨wo, hwo⟩ : ∃ wo, wo = wr := ⟨_, rfl⟩
      rw [← hwo] at S2 ⊢
      clear hwo
      go_loopg [13] (i - 1 - a) (fun kx s13 wr => ∃ (k : Nat) (dk : Array Nat), s13 = .int .i64 k ∧ a ≤ k ∧ k ≤ i - 1 ∧ kx = i - 1 - k ∧ Hid (Up a k d dk) ∧ Aside (SW (natV f) w0 blk off dk wr))
      case atStart => exact ⟨a, d, rfl, Nat.le_refl _, by omega, rfl, Up.start a d, S2⟩
      case round =>
        clear S2
        obtain ⟨k, dk, rfl, hak, hki, hkx, HU, S1⟩ := hrel
        have HKX := Lib.hid hkx; clear hkx
        by_cases hlk : k < i - 1
        · have hltz2 : (k : Int) < (i : Int) - 1 := by omega
          have hdz : Hid (dk.size = d.size) := HU.out.size
          obtain ⟨iN, hiN⟩ : ∃ q, q = k := ⟨_, rfl⟩
          obtain ⟨jN, hjN⟩ : ∃ q, q = k + 1 := ⟨_, rfl⟩
          have ea1 : ((k : Int)).toNat = iN := by omega
          have pa1 : (0 : Int) ≤ (k : Int) := by omega
          have ba1 : (k : Int) < (d.size : Int) := by omega
          have ec1 : ((k : Int) + 1).toNat = jN := by omega
          have pc1 : (0 : Int) ≤ (k : Int) + 1 := by omega
          have bc1 : (k : Int) + 1 < (d.size : Int) := by omega
          have rc1 : IntKind.i64.wrap ((k : Int) + 1) = (k : Int) + 1 := by rw [IntKind.wrap_i64]; omega
          obtain ⟨x1, hx1⟩ : ∃ x, x = f dk[k]! := ⟨_, rfl⟩
          obtain ⟨y1, hy1⟩ : ∃ x, x = f dk[k + 1]! := ⟨_, rfl⟩
          have S2 : Aside (SW (natV f) w0 blk off (swp dk k (k + 1)) ((wr.setCell ⟨blk, off + iN, none⟩ (.int .i64 y1)).setCell ⟨blk, off + jN, none⟩ (.int .i64 x1)).drew) := by rw [hiN, hjN, hx1, hy1]; exact S1.out.swapped R k (k + 1) (by rw [hdz.out]; omega) (by rw [hdz.out]; omega)
          have c1a : wr.cell? ⟨blk, off + iN, none⟩ = some (.int .i64 x1) := by rw [hiN, hx1]; exact S1.out.c1 R (by rw [hdz.out, hs]) k (by rw [hdz.out]; omega)
          have c1b : wr.cell? ⟨blk, off + jN, none⟩ = some (.int .i64 y1) := by rw [hjN, hy1]; exact S1.out.c1 R (by rw [hdz.out, hs]) (k + 1) (by rw [hdz.out]; omega)
          have f1a := S1.out.f1 R (by rw [hdz.out, hs]) k (by rw [hdz.out]; omega)
          have f1b := S1.out.f1 R (by rw [hdz.out, hs]) (k + 1) (by rw [hdz.out]; omega)
          obtain ⟨u1, c1c⟩ := S1.out.c2 R (by rw [hdz.out, hs]) k (k + 1) (by rw [hdz.out]; omega) (by rw [hdz.out]; omega) (.int .i64 y1)
          rw [← hjN, ← hiN] at c1c
          rw [← hiN] at f1a
          rw [← hjN] at f1b
          clear S1 hx1 hy1 hiN hjN
          go_wp2_with fail
          go_big_region
          clear c1a c1b c1c f1a f1b
          generalize ((wr.setCell ⟨blk, off + iN, none⟩ (.int .i64 y1)).setCell ⟨blk, off + jN, none⟩ (.int .i64 x1)).drew = w2 at S2 ⊢
          clear ea1 ec1
          go_wp2
          go_roundg (i - 1 - (k + 1))
          case measure => have := HKX.out; omega
          case rel => exact ⟨k + 1, _, by go_num, by omega, by omega, rfl, HU.out.step hak (by omega), S2⟩
        · have hltz2 : ¬ (k : Int) < (i : Int) - 1 := by omega
          have hkk : k = i - 1 := by omega
          rw [hkk] at HU
          clear hkk
          have HF := Lib.hid (HR.out.first HT.out ⟨hi, hj⟩ hb HI.out HJ.out (HU.out.rot hi))
          go_wp2
          refine bodyPost_ret (results_none rfl _ _ _) rfl ?_
          exact ⟨rfl, dk, HF.out, S1.out⟩

set_option maxHeartbeats 4000000 in
set_option maxRecDepth 1000000 in
theorem sym_last {f : Nat → Nat} {blk off cap a m b : Nat} {d0 d : Array Nat} {w0 w : World} {cf : Nat → Nat → Int} {le : Nat → Nat → Prop} (tr : ∀ x y z, le x y → le y z → le x z) {g : Nat} {cb : Array Value}
    (eg : ∀ args w, (callFunc g args).run Try.prog w = .ok (.enter g args) w) (hcmp : CmpLays1 Try.prog g cb (natV f) cf blk off d0.size w0) (R : Row1 (natV f) w0 blk off d0) (hs : d0.size = d.size) (S : SW (natV f) w0 blk off d w)
    (hm : b = m + 1) (ham : a + 1 < m) (hb : b ≤ d.size) (hsz : d.size < 4611686018427387904) (hr : Runs (ltOf cf) le a m b d) :
    Calls Try.prog 155 #[.slice (some ⟨blk, off, none⟩) d.size cap, .int .i64 a, .int .i64 m, .int .i64 b, .func (.func g) #[] cb] w fun e w' => e = .returned (.tuple #[]) ∧ ∃ d', Mrg le a b d d' ∧ SW (natV f) w0 blk off d' w' := by
  have S0 : Aside (SW (natV f) w0 blk off d w) := S
  have HC : Aside _ := hcmp
  have mixed : Try.prog.follows Departure.mixedOrders = true := by kernel_rfl
  rw [hm] at hr
  have HR := Lib.hid hr
  have HT : Aside _ := tr
  have hm1 : ((m : Int) - (a : Int) == 1) = false := by simp; omega
  have hm0 : ((b : Int) - (m : Int) == 1) = true := by simp; omega
  have hm2 : b ≤ m + 1 := by omega
  have hm3 : m + 1 ≤ b := by omega
  have HB := Lib.hid hm
  clear S hcmp hr tr hm
  go_enter Try.func155, Try.ntmps155
  go_wp2
  go_loopg [14, 15] (m - a) (fun kx s14 s15 wr => ∃ (i j : Nat), s14 = .int .i64 i ∧ s15 = .int .i64 j ∧ a ≤ i ∧ i ≤ j ∧ j ≤ m ∧ j - i ≤ kx ∧ Hid (i = a ∨ ltOf cf d[m]! d[i - 1]! = false) ∧ Hid (j = m ∨ ltOf cf d[m]! d[j]! = true) ∧ Aside (SW (natV f) w0 blk off d wr))
  case atStart => exact ⟨a, m, rfl, rfl, Nat.le_refl _, by omega, Nat.le_refl _, Nat.le_refl _, .inl rfl, .inl rfl, S0⟩
  case round =>
    clear S0
    obtain ⟨i, j, rfl, rfl, hi, hij, hj, hkx, HI, HJ, S1⟩ := hrel
    by_cases hlt : i < j
    · have hltz : (i : Int) < (j : Int) := by omega
      obtain ⟨hN, hh⟩ : ∃ h, h = (i + j) / 2 := ⟨_, rfl⟩
      have ea1 : (((i : Int) + (j : Int)) / 2).toNat = hN := by omega
      have pa1 : (0 : Int) ≤ ((i : Int) + (j : Int)) / 2 := by omega
      have ba1 : ((i : Int) + (j : Int)) / 2 < (d.size : Int) := by omega
      have pc1 : (0 : Int) ≤ (m : Int) := by omega
      have bc1 : (m : Int) < (d.size : Int) := by omega
      have hzN : (((i : Int) + (j : Int)) / 2) = (hN : Int) := by omega
      obtain ⟨x1, hx1⟩ : ∃ x, x = f d[m]! := ⟨_, rfl⟩
      obtain ⟨y1, hy1⟩ : ∃ x, x = f d[hN]! := ⟨_, rfl⟩
      obtain ⟨cv, hcv⟩ : ∃ c, c = cf d[m]! d[hN]! := ⟨_, rfl⟩
      have l1a : ∀ n os, (grow (wr.drewN n) os).cell? ⟨blk, off + m, none⟩ = some (.int .i64 x1) := fun n os => by rw [hx1]; exact S1.out.cl R hs.symm m (by omega) n os
      have l1b : ∀ n os, (grow (wr.drewN n) os).cell? ⟨blk, off + hN, none⟩ = some (.int .i64 y1) := fun n os => by rw [hy1]; exact S1.out.cl R hs.symm hN (by omega) n os
      have hc1 : ∀ n os, Calls Try.prog g (#[.int .i64 x1, .int .i64 y1] ++ cb) (grow (wr.drewN n) os) fun e w' => e = .returned (.int .i64 cv) ∧ ∃ q os', w' = grow ((grow (wr.drewN n) os).drewN q) os' := by rw [hx1, hy1, hcv]; exact S1.out.cmp HC.out hs.symm _ _
      have hNi : i ≤ hN ∧ hN < j := by omega
      obtain ⟨hN1, hN2⟩ := hNi
      have HZN := Lib.hid hzN
      have HX : Hid (cv = cf d[m]! d[hN]!) := hcv
      clear hx1 hy1 hh hzN hcv
      by_cases hlv : cv < 0
      · have hd1 : decide (cv < 0) = true := decide_eq_true hlv
        have HLV := Lib.hid hlv
        go_wp2_with fail
        go_quiet_grown (first | (go_at_fn g; refine Calls.grown_of (hc1 _ _)))
        have S2 : Aside (SW (natV f) w0 blk off d (grow (wr.drewN nq) osq)) := S1.out.grown nq osq
        clear l1a l1b hc1 S1
        generalize grow (wr.drewN nq) osq = w2 at S2 ⊢
        clear nq osq ea1
        go_wp2
        go_roundg (hN - i)
        case measure => omega
        case rel => exact ⟨i, hN, rfl, by rw [HZN.out], hi, hN1, by omega, Nat.le_refl _, HI, .inr (by show decide (cf _ _ < 0) = true; rw [← HX.out]; exact decide_eq_true HLV.out), S2⟩
      · have hd1 : decide (cv < 0) = false := decide_eq_false hlv
        have HLV := Lib.hid hlv
        go_wp2_with fail
        go_quiet_grown (first | (go_at_fn g; refine Calls.grown_of (hc1 _ _)))
        have S2 : Aside (SW (natV f) w0 blk off d (grow (wr.drewN nq) osq)) := S1.out.grown nq osq
        clear l1a l1b hc1 S1
        generalize grow (wr.drewN nq) osq = w2 at S2 ⊢
        clear nq osq ea1
        go_wp2
        go_roundg (j - (hN + 1))
        case measure => omega
        case rel => exact ⟨hN + 1, j, by rw [HZN.out]; go_num, rfl, by omega, by omega, hj, Nat.le_refl _, .inr (by rw [Nat.add_sub_cancel]; show decide (cf _ _ < 0) = false; rw [← HX.out]; exact decide_eq_false (Int.not_lt.2 HLV.out)), HJ, S2⟩
    · obtain rfl : i = j := by omega
      have hltz : ¬ (i : Int) < (i : Int) := by omega
      have S2 : Aside (SW (natV f) w0 blk off d wr) := S1
      clear S1 hkx
      go_wp2
      obtain ⟨wo, hwo⟩ : ∃ wo, wo = wr := ⟨_, rfl⟩
      rw [← hwo] at S2 ⊢
      clear hwo
      go_loopg [17] (m - i) (fun kx s17 wr => ∃ (k : Nat) (dk : Array Nat), s17 = .int .i64 k ∧ i ≤ k ∧ k ≤ m ∧ kx = k - i ∧ Hid (Dn k m d dk) ∧ Aside (SW (natV f) w0 blk off dk wr))
      case atStart => exact ⟨m, d, rfl, hj, Nat.le_refl _, rfl, Dn.start m d, S2⟩
      case round =>
        clear S2
        obtain ⟨k, dk, rfl, hik, hkm, hkx, HU, S1⟩ := hrel
        have HKX := Lib.hid hkx; clear hkx
        by_cases hlk : i < k
        · have hltz2 : (i : Int) < (k : Int) := by omega
          have hdz : Hid (dk.size = d.size) := HU.out.size
          obtain ⟨kp, hkp⟩ : ∃ q, q + 1 = k := ⟨k - 1, by omega⟩
          have HKP := Lib.hid hkp
          have zkp : (k : Int) - 1 = (kp : Int) := by omega
          obtain ⟨iN, hiN⟩ : ∃ q, q = k := ⟨_, rfl⟩
          obtain ⟨jN, hjN⟩ : ∃ q, q = kp := ⟨_, rfl⟩
          have ea1 : ((k : Int)).toNat = iN := by omega
          have pa1 : (0 : Int) ≤ (k : Int) := by omega
          have ba1 : (k : Int) < (d.size : Int) := by omega
          have ec1 : ((k : Int) - 1).toNat = jN := by omega
          have pc1 : (0 : Int) ≤ (k : Int) - 1 := by omega
          have bc1 : (k : Int) - 1 < (d.size : Int) := by omega
          have rc1 : IntKind.i64.wrap ((k : Int) - 1) = (k : Int) - 1 := by rw [IntKind.wrap_i64]; omega
          obtain ⟨x1, hx1⟩ : ∃ x, x = f dk[k]! := ⟨_, rfl⟩
          obtain ⟨y1, hy1⟩ : ∃ x, x = f dk[kp]! := ⟨_, rfl⟩
          have S2 : Aside (SW (natV f) w0 blk off (swp dk k kp) ((wr.setCell ⟨blk, off + iN, none⟩ (.int .i64 y1)).setCell ⟨blk, off + jN, none⟩ (.int .i64 x1)).drew) := by rw [hiN, hjN, hx1, hy1]; exact S1.out.swapped R k kp (by rw [hdz.out]; omega) (by rw [hdz.out]; omega)
          have c1a : wr.cell? ⟨blk, off + iN, none⟩ = some (.int .i64 x1) := by rw [hiN, hx1]; exact S1.out.c1 R (by rw [hdz.out, hs]) k (by rw [hdz.out]; omega)
          have c1b : wr.cell? ⟨blk, off + jN, none⟩ = some (.int .i64 y1) := by rw [hjN, hy1]; exact S1.out.c1 R (by rw [hdz.out, hs]) kp (by rw [hdz.out]; omega)
          have f1a := S1.out.f1 R (by rw [hdz.out, hs]) k (by rw [hdz.out]; omega)
          have f1b := S1.out.f1 R (by rw [hdz.out, hs]) kp (by rw [hdz.out]; omega)
          obtain ⟨u1, c1c⟩ := S1.out.c2 R (by rw [hdz.out, hs]) k kp (by rw [hdz.out]; omega) (by rw [hdz.out]; omega) (.int .i64 y1)
          rw [← hjN, ← hiN] at c1c
          rw [← hiN] at f1a
          rw [← hjN] at f1b
          have HZK := Lib.hid zkp
          clear S1 hx1 hy1 hiN hjN hkp zkp
          go_wp2_with fail
          go_big_region
          clear c1a c1b c1c f1a f1b
          generalize ((wr.setCell ⟨blk, off + iN, none⟩ (.int .i64 y1)).setCell ⟨blk, off + jN, none⟩ (.int .i64 x1)).drew = w2 at S2 ⊢
          clear ea1 ec1 rc1
          go_wp2
          go_roundg (kp - i)
          case measure => have := HKX.out; have := HKP.out; omega
          case rel => exact ⟨kp, _, by rw [← HZK.out], by have := HKP.out; omega, by have := HKP.out; omega, rfl, (show Hid (Dn kp m d (swp dk k kp)) from by have h := HU.out; rw [← HKP.out] at h ⊢; exact h.step (by have := HKP.out; omega) (by omega)), S2⟩
        · have hltz2 : ¬ (i : Int) < (k : Int) := by omega
          have hkk : k = i := by omega
          have hu := HU.out
          rw [hkk] at hu
          have hrot := hu.rot
          have HF0 := HR.out.last HT.out ⟨hi, hj⟩ (by have := HB.out; omega) HI.out HJ.out hrot
          rw [← HB.out] at HF0
          have HF := Lib.hid HF0
          clear hkk hu hrot HF0
          go_wp2
          refine bodyPost_ret (results_none rfl _ _ _) rfl ?_
          exact ⟨rfl, dk, HF.out, S1.out⟩
end Go.Proofs.Ytgnigkghkldcfaa

/-! slices.symMergeCmpFunc at ints: both runs parted, turned, and merged. -/
namespace Go.Proofs.Ytgnigkghkldcfaa
open Go.RowKit Go.Proofs Go.Lib Go.Sort Go.Shelf

/-- what a merge of at most so many comes to -/
def SymIH (f : Nat → Nat) (cf : Nat → Nat → Int) (le : Nat → Nat → Prop) (g : Nat) (cb : Array Value) (d0 : Array Nat) (w0 : World) (blk off cap : Nat) (N : Nat) : Prop :=
  ∀ (a m b : Nat) (d : Array Nat) (w : World), b - a < N → a < m → m < b → b ≤ d.size → d0.size = d.size → SW (natV f) w0 blk off d w → Runs (ltOf cf) le a m b d →
    Calls Try.prog 155 #[.slice (some ⟨blk, off, none⟩) d.size cap, .int .i64 a, .int .i64 m, .int .i64 b, .func (.func g) #[] cb] w fun e w' => e = .returned (.tuple #[]) ∧ ∃ d', Mrg le a b d d' ∧ SW (natV f) w0 blk off d' w'

set_option maxHeartbeats 16000000 in
set_option maxRecDepth 1000000 in
theorem sym_rest {f : Nat → Nat} {blk off cap a m b : Nat} {d0 d : Array Nat} {w0 w : World} {cf : Nat → Nat → Int} {le : Nat → Nat → Prop} (tr : ∀ x y z, le x y → le y z → le x z) {g : Nat} {cb : Array Value}
    (eg : ∀ args w, (callFunc g args).run Try.prog w = .ok (.enter g args) w) (hcmp : CmpLays1 Try.prog g cb (natV f) cf blk off d0.size w0) (R : Row1 (natV f) w0 blk off d0) (hs : d0.size = d.size) (S : SW (natV f) w0 blk off d w)
    (ham : a + 1 < m) (hmb : m + 1 < b) (hb : b ≤ d.size) (hsz : d.size < 4611686018427387904) (hr : Runs (ltOf cf) le a m b d) (ih : SymIH f cf le g cb d0 w0 blk off cap (b - a)) :
    Calls Try.prog 155 #[.slice (some ⟨blk, off, none⟩) d.size cap, .int .i64 a, .int .i64 m, .int .i64 b, .func (.func g) #[] cb] w fun e w' => e = .returned (.tuple #[]) ∧ ∃ d', Mrg le a b d d' ∧ SW (natV f) w0 blk off d' w' := by
  have S0 : Aside (SW (natV f) w0 blk off d w) := S
  have HC : Aside _ := hcmp
  have HIH : Aside _ := ih
  have mixed : Try.prog.follows Departure.mixedOrders = true := by kernel_rfl
  have HR := Lib.hid hr
  have HT : Aside _ := tr
  have hm1 : ((m : Int) - (a : Int) == 1) = false := by simp; omega
  have hm0 : ((b : Int) - (m : Int) == 1) = false := by simp; omega
  obtain ⟨mid, hmd⟩ : ∃ x, x = (a + b) / 2 := ⟨_, rfl⟩
  have hmz : ((a : Int) + (b : Int)) / 2 = (mid : Int) := by omega
  obtain ⟨s0, hs0⟩ : ∃ s, s = if m > mid then mid + m - b else a := ⟨_, rfl⟩
  obtain ⟨r0, hr0⟩ : ∃ r, r = if m > mid then mid else m := ⟨_, rfl⟩
  obtain ⟨q1, q2, q3, q4, q5, q6, q7, q8⟩ := Part.start (by omega : a < m) (by omega : m < b) hmd hs0 hr0
  have Q7 := Lib.hid q7; have Q8 := Lib.hid q8
  have hcase : (mid < m ∧ s0 = mid + m - b ∧ r0 = mid) ∨ (¬ mid < m ∧ s0 = a ∧ r0 = m) := by
    by_cases h : mid < m
    · rw [if_pos h] at hs0 hr0; exact .inl ⟨h, hs0, hr0⟩
    · rw [if_neg h] at hs0 hr0; exact .inr ⟨h, hs0, hr0⟩
  have hamid : a ≤ mid := by omega
  have HAM := Lib.hid hmd
  clear S hcmp hr tr ih hs0 hr0 q7 q8 hmd
  rcases hcase with ⟨hgt, hsz0, hrz0⟩ | ⟨hgt, hsz0, hrz0⟩
  case' inl =>
    have hgz : (mid : Int) < (m : Int) := by omega
    have hs0z : (mid : Int) + (m : Int) - (b : Int) = (s0 : Int) := by omega
    have HRZ := Lib.hid (show (r0 : Int) = (mid : Int) by omega)
    have HSZ := Lib.hid (show (s0 : Int) = (s0 : Int) from rfl)
    clear hsz0 hrz0
    go_enter Try.func155, Try.ntmps155
    go_wp2
    clear hs0z
  case' inr =>
    have hgz : ¬ (mid : Int) < (m : Int) := by omega
    have HRZ := Lib.hid (show (r0 : Int) = (m : Int) by omega)
    have HSZ := Lib.hid (show (s0 : Int) = (a : Int) by omega)
    clear hsz0 hrz0
    go_enter Try.func155, Try.ntmps155
    go_wp2
  all_goals
    go_loopg [20, 21] (r0 - s0) (fun kx s20 s21 wr => ∃ (s r : Nat), s20 = .int .i64 s ∧ s21 = .int .i64 r ∧ s0 ≤ s ∧ s ≤ r ∧ r ≤ r0 ∧ r - s ≤ kx ∧ Hid (s = s0 ∨ ltOf cf d[mid + m - s]! d[s - 1]! = false) ∧ Hid (r = r0 ∨ ltOf cf d[mid + m - 1 - r]! d[r]! = true) ∧ Aside (SW (natV f) w0 blk off d wr))
    case atStart => exact ⟨s0, r0, by first | rw [HSZ.out] | rfl, by first | rw [HRZ.out] | rfl, Nat.le_refl _, q2, Nat.le_refl _, Nat.le_refl _, .inl rfl, .inl rfl, S0⟩
    case round =>
      clear S0
      obtain ⟨s, r, rfl, rfl, hsi, hsr, hrr, hkx, HI, HJ, S1⟩ := hrel
      by_cases hlt : s < r
      · have hltz : (s : Int) < (r : Int) := by omega
        obtain ⟨hN, hh⟩ : ∃ h, h = (s + r) / 2 := ⟨_, rfl⟩
        obtain ⟨pN, hp⟩ : ∃ p, p = mid + m - 1 - hN := ⟨_, rfl⟩
        have hzN : (((s : Int) + (r : Int)) / 2) = (hN : Int) := by omega
        have hNi : s ≤ hN ∧ hN < r := by omega
        obtain ⟨hN1, hN2⟩ := hNi
        have hpz : (mid : Int) + (m : Int) - 1 - (hN : Int) = (pN : Int) := by omega
        have hpd : pN < d.size := by omega
        have hnd : hN < d.size := by omega
        have ba1 : (hN : Int) < (d.size : Int) := by omega
        have bc1 : (pN : Int) < (d.size : Int) := by omega
        have pa1 : (0 : Int) ≤ (hN : Int) := by omega
        have pc1 : (0 : Int) ≤ (pN : Int) := by omega
        obtain ⟨x1, hx1⟩ : ∃ x, x = f d[pN]! := ⟨_, rfl⟩
        obtain ⟨y1, hy1⟩ : ∃ x, x = f d[hN]! := ⟨_, rfl⟩
        obtain ⟨cv, hcv⟩ : ∃ c, c = cf d[pN]! d[hN]! := ⟨_, rfl⟩
        have l1a : ∀ n os, (grow (wr.drewN n) os).cell? ⟨blk, off + pN, none⟩ = some (.int .i64 x1) := fun n os => by rw [hx1]; exact S1.out.cl R hs.symm pN hpd n os
        have l1b : ∀ n os, (grow (wr.drewN n) os).cell? ⟨blk, off + hN, none⟩ = some (.int .i64 y1) := fun n os => by rw [hy1]; exact S1.out.cl R hs.symm hN hnd n os
        have hc1 : ∀ n os, Calls Try.prog g (#[.int .i64 x1, .int .i64 y1] ++ cb) (grow (wr.drewN n) os) fun e w' => e = .returned (.int .i64 cv) ∧ ∃ q os', w' = grow ((grow (wr.drewN n) os).drewN q) os' := by rw [hx1, hy1, hcv]; exact S1.out.cmp HC.out hs.symm _ _
        have HX : Hid (cv = cf d[pN]! d[hN]!) := hcv
        have HP := Lib.hid hp
        have rc1 : IntKind.i64.wrap (pN : Int) = (pN : Int) := by rw [IntKind.wrap_i64]; omega
        clear hx1 hy1 hh hp hcv
        by_cases hlv : cv < 0
        · have hd1 : decide (cv < 0) = true := decide_eq_true hlv
          have HLV := Lib.hid hlv
          go_wp2_with fail
          go_quiet_grown (first | (go_at_fn g; refine Calls.grown_of (hc1 _ _)))
          have S2 : Aside (SW (natV f) w0 blk off d (grow (wr.drewN nq) osq)) := S1.out.grown nq osq
          clear l1a l1b hc1 S1
          generalize grow (wr.drewN nq) osq = w2 at S2 ⊢
          clear nq osq hpz rc1
          go_wp2
          clear hzN
          go_roundg (hN - s)
          case measure => omega
          case rel => exact ⟨s, hN, rfl, rfl, hsi, hN1, by omega, Nat.le_refl _, HI, .inr (by rw [← HP.out]; show decide (cf _ _ < 0) = true; rw [← HX.out]; exact decide_eq_true HLV.out), S2⟩
        · have hd1 : decide (cv < 0) = false := decide_eq_false hlv
          have HLV := Lib.hid hlv
          go_wp2_with fail
          go_quiet_grown (first | (go_at_fn g; refine Calls.grown_of (hc1 _ _)))
          have S2 : Aside (SW (natV f) w0 blk off d (grow (wr.drewN nq) osq)) := S1.out.grown nq osq
          clear l1a l1b hc1 S1
          generalize grow (wr.drewN nq) osq = w2 at S2 ⊢
          clear nq osq hpz rc1
          go_wp2
          clear hzN
          go_roundg (r - (hN + 1))
          case measure => omega
          case rel => exact ⟨hN + 1, r, by go_num, rfl, by omega, by omega, hrr, Nat.le_refl _, .inr (by rw [Nat.add_sub_cancel, show mid + m - (hN + 1) = mid + m - 1 - hN by omega, ← HP.out]; show decide (cf _ _ < 0) = false; rw [← HX.out]; exact decide_eq_false (Int.not_lt.2 HLV.out)), HJ, S2⟩
      · have hsreq : s = r := by omega
        rw [← hsreq] at HJ
        have hltz : ¬ (s : Int) < (r : Int) := by omega
        obtain ⟨e, he⟩ : ∃ e, e = mid + m - s := ⟨_, rfl⟩
        have hez : (mid : Int) + (m : Int) - (s : Int) = (e : Int) := by omega
        have hp : Part (ltOf cf) a m b mid s e d := by
          refine ⟨by omega, by omega, by omega, by omega, by omega, by omega, by omega, ?_, ?_⟩
          · rcases HI.out with h | h
            · rcases Q7.out with h2 | h2
              · exact .inl (h.trans h2)
              · by_cases h3 : s = a
                · exact .inl h3
                · exact .inr (.inl (by omega))
            · exact .inr (.inr (by rw [he]; exact h))
          · rcases HJ.out with h | h
            · rcases Q8.out with h2 | h2
              · exact .inl (h.trans h2)
              · exact .inr (.inl (by rw [he, h]; exact h2))
            · exact .inr (.inr (by rw [show e - 1 = mid + m - 1 - s by omega]; exact h))
        have HPA := Lib.hid hp
        have hes : s ≤ e ∧ m ≤ e ∧ mid ≤ e ∧ e ≤ b ∧ s ≤ m ∧ s ≤ mid ∧ a ≤ s := ⟨by omega, hp.me, hp.mide, hp.eb, hp.sm, hp.smid, hp.ge⟩
        obtain ⟨h1, h2, h3, h4, h5, h6, h7⟩ := hes
        have h8 : s < m → m < e → a ≤ s := fun _ _ => h7
        clear HI HJ he hp hsreq h8 hkx HSZ HRZ
        by_cases w1 : s < m ∧ m < e <;> by_cases w2 : a < s ∧ s < mid <;> by_cases w3 : mid < e ∧ e < b
        · as_aux_lemma =>
            have hrc := rot_any R hs S1.out (by omega : s < m) (by omega : m < e) (by omega) hsz g cb (cap := cap)
            have HRC := Lib.hid hrc
            clear hrc S1
            go_wp2_with fail
            refine HRC.out.mono ?_
            rintro _ w1 ⟨rfl, d1, hrot, S2⟩
            obtain ⟨R1, R2, hpm, hx⟩ := HPA.out.rot HT.out HR.out hb hrot
            have hz1 : d1.size = d.size := hrot.size
            have PM := Lib.hid hpm; have HX := Lib.hid hx; have HR2 := Lib.hid R2; have HZ1 := Lib.hid hz1
            clear hrot hpm hx R2
            have hlc := HIH.out a s mid d1 w1 (by omega) (by omega) (by omega) (by rw [hz1]; omega) (hs.trans hz1.symm) S2 R1
            rw [hz1] at hlc
            have HLC := Lib.hid hlc
            clear hlc S2 R1 hz1
            go_wp2_with fail
            all_goals refine HLC.out.mono ?_
            all_goals rintro _ w2 ⟨rfl, d2, M1, S3⟩
            all_goals have hz2 : d2.size = d.size := M1.perm.1.trans HZ1.out
            all_goals have R3 := HR2.out.of_perm h3 h4 M1.perm (.inl (Nat.le_refl _))
            all_goals have HM1 := Lib.hid M1; have HZ2 := Lib.hid hz2
            all_goals clear M1
            all_goals have htc := HIH.out mid e b d2 w2 (by omega) (by omega) (by omega) (by rw [hz2]; exact hb) (hs.trans hz2.symm) S3 R3
            all_goals rw [hz2] at htc
            all_goals have HTC := Lib.hid htc
            all_goals clear htc S3 R3 hz2
            all_goals go_wp2_with fail
            all_goals refine HTC.out.mono ?_
            all_goals rintro _ w3 ⟨rfl, d3, M2, S4⟩
            all_goals have HF := Lib.hid (HPA.out.merged hb PM.out HX.out HM1.out M2)
            all_goals have S5 := Lib.hid S4
            all_goals clear M2 S4
            all_goals go_wp2
            all_goals go_end0
            all_goals exact ⟨rfl, _, HF.out, S5.out⟩
        · as_aux_lemma =>
            have hrc := rot_any R hs S1.out (by omega : s < m) (by omega : m < e) (by omega) hsz g cb (cap := cap)
            have HRC := Lib.hid hrc
            clear hrc S1
            go_wp2_with fail
            refine HRC.out.mono ?_
            rintro _ w1 ⟨rfl, d1, hrot, S2⟩
            obtain ⟨R1, R2, hpm, hx⟩ := HPA.out.rot HT.out HR.out hb hrot
            have hz1 : d1.size = d.size := hrot.size
            have PM := Lib.hid hpm; have HX := Lib.hid hx; have HR2 := Lib.hid R2; have HZ1 := Lib.hid hz1
            clear hrot hpm hx R2
            have hlc := HIH.out a s mid d1 w1 (by omega) (by omega) (by omega) (by rw [hz1]; omega) (hs.trans hz1.symm) S2 R1
            rw [hz1] at hlc
            have HLC := Lib.hid hlc
            clear hlc S2 R1 hz1
            go_wp2_with fail
            all_goals refine HLC.out.mono ?_
            all_goals rintro _ w2 ⟨rfl, d2, M1, S3⟩
            all_goals have hz2 : d2.size = d.size := M1.perm.1.trans HZ1.out
            all_goals have R3 := HR2.out.of_perm h3 h4 M1.perm (.inl (Nat.le_refl _))
            all_goals have HM1 := Lib.hid M1; have HZ2 := Lib.hid hz2
            all_goals clear M1
            all_goals have HF := Lib.hid (HPA.out.merged hb PM.out HX.out HM1.out (R3.lone (by omega)))
            all_goals have S5 := Lib.hid S3
            all_goals clear S3 R3 hz2
            all_goals go_wp2
            all_goals go_end0
            all_goals exact ⟨rfl, _, HF.out, S5.out⟩
        · as_aux_lemma =>
            have hrc := rot_any R hs S1.out (by omega : s < m) (by omega : m < e) (by omega) hsz g cb (cap := cap)
            have HRC := Lib.hid hrc
            clear hrc S1
            go_wp2_with fail
            refine HRC.out.mono ?_
            rintro _ w1 ⟨rfl, d1, hrot, S2⟩
            obtain ⟨R1, R2, hpm, hx⟩ := HPA.out.rot HT.out HR.out hb hrot
            have hz1 : d1.size = d.size := hrot.size
            have PM := Lib.hid hpm; have HX := Lib.hid hx; have HR2 := Lib.hid R2; have HZ1 := Lib.hid hz1
            clear hrot hpm hx R2
            obtain ⟨d2, hd2⟩ : ∃ d2, d2 = d1 := ⟨_, rfl⟩
            have M1 : Mrg le a mid d1 d2 := by rw [hd2]; exact R1.lone (by omega)
            obtain ⟨w2, hw2⟩ : ∃ w2, w2 = w1 := ⟨_, rfl⟩
            have S3 : SW (natV f) w0 blk off d2 w2 := by rw [hd2, hw2]; exact S2
            rw [← hw2]
            clear hw2 hd2 S2 R1 hz1
            all_goals have hz2 : d2.size = d.size := M1.perm.1.trans HZ1.out
            all_goals have R3 := HR2.out.of_perm h3 h4 M1.perm (.inl (Nat.le_refl _))
            all_goals have HM1 := Lib.hid M1; have HZ2 := Lib.hid hz2
            all_goals clear M1
            all_goals have htc := HIH.out mid e b d2 w2 (by omega) (by omega) (by omega) (by rw [hz2]; exact hb) (hs.trans hz2.symm) S3 R3
            all_goals rw [hz2] at htc
            all_goals have HTC := Lib.hid htc
            all_goals clear htc S3 R3 hz2
            all_goals go_wp2_with fail
            all_goals refine HTC.out.mono ?_
            all_goals rintro _ w3 ⟨rfl, d3, M2, S4⟩
            all_goals have HF := Lib.hid (HPA.out.merged hb PM.out HX.out HM1.out M2)
            all_goals have S5 := Lib.hid S4
            all_goals clear M2 S4
            all_goals go_wp2
            all_goals go_end0
            all_goals exact ⟨rfl, _, HF.out, S5.out⟩
        · as_aux_lemma =>
            have hrc := rot_any R hs S1.out (by omega : s < m) (by omega : m < e) (by omega) hsz g cb (cap := cap)
            have HRC := Lib.hid hrc
            clear hrc S1
            go_wp2_with fail
            refine HRC.out.mono ?_
            rintro _ w1 ⟨rfl, d1, hrot, S2⟩
            obtain ⟨R1, R2, hpm, hx⟩ := HPA.out.rot HT.out HR.out hb hrot
            have hz1 : d1.size = d.size := hrot.size
            have PM := Lib.hid hpm; have HX := Lib.hid hx; have HR2 := Lib.hid R2; have HZ1 := Lib.hid hz1
            clear hrot hpm hx R2
            obtain ⟨d2, hd2⟩ : ∃ d2, d2 = d1 := ⟨_, rfl⟩
            have M1 : Mrg le a mid d1 d2 := by rw [hd2]; exact R1.lone (by omega)
            obtain ⟨w2, hw2⟩ : ∃ w2, w2 = w1 := ⟨_, rfl⟩
            have S3 : SW (natV f) w0 blk off d2 w2 := by rw [hd2, hw2]; exact S2
            rw [← hw2]
            clear hw2 hd2 S2 R1 hz1
            all_goals have hz2 : d2.size = d.size := M1.perm.1.trans HZ1.out
            all_goals have R3 := HR2.out.of_perm h3 h4 M1.perm (.inl (Nat.le_refl _))
            all_goals have HM1 := Lib.hid M1; have HZ2 := Lib.hid hz2
            all_goals clear M1
            all_goals have HF := Lib.hid (HPA.out.merged hb PM.out HX.out HM1.out (R3.lone (by omega)))
            all_goals have S5 := Lib.hid S3
            all_goals clear S3 R3 hz2
            all_goals go_wp2
            all_goals go_end0
            all_goals exact ⟨rfl, _, HF.out, S5.out⟩
        · as_aux_lemma =>
            obtain ⟨d1, hd1⟩ : ∃ d1, d1 = d := ⟨_, rfl⟩
            have hrot : Rot s m e d d1 := by rw [hd1]; rcases (by omega : s = m ∨ e = m) with q | q; (rw [q]; exact Rot.same_left m e d); (rw [q]; exact Rot.same_right s m d)
            obtain ⟨w1, hw1⟩ : ∃ w1, w1 = wr := ⟨_, rfl⟩
            have S2 : SW (natV f) w0 blk off d1 w1 := by rw [hd1, hw1]; exact S1.out
            rw [← hw1]
            clear hw1 hd1 S1
            obtain ⟨R1, R2, hpm, hx⟩ := HPA.out.rot HT.out HR.out hb hrot
            have hz1 : d1.size = d.size := hrot.size
            have PM := Lib.hid hpm; have HX := Lib.hid hx; have HR2 := Lib.hid R2; have HZ1 := Lib.hid hz1
            clear hrot hpm hx R2
            have hlc := HIH.out a s mid d1 w1 (by omega) (by omega) (by omega) (by rw [hz1]; omega) (hs.trans hz1.symm) S2 R1
            rw [hz1] at hlc
            have HLC := Lib.hid hlc
            clear hlc S2 R1 hz1
            go_wp2_with fail
            all_goals refine HLC.out.mono ?_
            all_goals rintro _ w2 ⟨rfl, d2, M1, S3⟩
            all_goals have hz2 : d2.size = d.size := M1.perm.1.trans HZ1.out
            all_goals have R3 := HR2.out.of_perm h3 h4 M1.perm (.inl (Nat.le_refl _))
            all_goals have HM1 := Lib.hid M1; have HZ2 := Lib.hid hz2
            all_goals clear M1
            all_goals have htc := HIH.out mid e b d2 w2 (by omega) (by omega) (by omega) (by rw [hz2]; exact hb) (hs.trans hz2.symm) S3 R3
            all_goals rw [hz2] at htc
            all_goals have HTC := Lib.hid htc
            all_goals clear htc S3 R3 hz2
            all_goals go_wp2_with fail
            all_goals refine HTC.out.mono ?_
            all_goals rintro _ w3 ⟨rfl, d3, M2, S4⟩
            all_goals have HF := Lib.hid (HPA.out.merged hb PM.out HX.out HM1.out M2)
            all_goals have S5 := Lib.hid S4
            all_goals clear M2 S4
            all_goals go_wp2
            all_goals go_end0
            all_goals exact ⟨rfl, _, HF.out, S5.out⟩
        · as_aux_lemma =>
            obtain ⟨d1, hd1⟩ : ∃ d1, d1 = d := ⟨_, rfl⟩
            have hrot : Rot s m e d d1 := by rw [hd1]; rcases (by omega : s = m ∨ e = m) with q | q; (rw [q]; exact Rot.same_left m e d); (rw [q]; exact Rot.same_right s m d)
            obtain ⟨w1, hw1⟩ : ∃ w1, w1 = wr := ⟨_, rfl⟩
            have S2 : SW (natV f) w0 blk off d1 w1 := by rw [hd1, hw1]; exact S1.out
            rw [← hw1]
            clear hw1 hd1 S1
            obtain ⟨R1, R2, hpm, hx⟩ := HPA.out.rot HT.out HR.out hb hrot
            have hz1 : d1.size = d.size := hrot.size
            have PM := Lib.hid hpm; have HX := Lib.hid hx; have HR2 := Lib.hid R2; have HZ1 := Lib.hid hz1
            clear hrot hpm hx R2
            have hlc := HIH.out a s mid d1 w1 (by omega) (by omega) (by omega) (by rw [hz1]; omega) (hs.trans hz1.symm) S2 R1
            rw [hz1] at hlc
            have HLC := Lib.hid hlc
            clear hlc S2 R1 hz1
            go_wp2_with fail
            all_goals refine HLC.out.mono ?_
            all_goals rintro _ w2 ⟨rfl, d2, M1, S3⟩
            all_goals have hz2 : d2.size = d.size := M1.perm.1.trans HZ1.out
            all_goals have R3 := HR2.out.of_perm h3 h4 M1.perm (.inl (Nat.le_refl _))
            all_goals have HM1 := Lib.hid M1; have HZ2 := Lib.hid hz2
            all_goals clear M1
            all_goals have HF := Lib.hid (HPA.out.merged hb PM.out HX.out HM1.out (R3.lone (by omega)))
            all_goals have S5 := Lib.hid S3
            all_goals clear S3 R3 hz2
            all_goals go_wp2
            all_goals go_end0
            all_goals exact ⟨rfl, _, HF.out, S5.out⟩
        · as_aux_lemma =>
            obtain ⟨d1, hd1⟩ : ∃ d1, d1 = d := ⟨_, rfl⟩
            have hrot : Rot s m e d d1 := by rw [hd1]; rcases (by omega : s = m ∨ e = m) with q | q; (rw [q]; exact Rot.same_left m e d); (rw [q]; exact Rot.same_right s m d)
            obtain ⟨w1, hw1⟩ : ∃ w1, w1 = wr := ⟨_, rfl⟩
            have S2 : SW (natV f) w0 blk off d1 w1 := by rw [hd1, hw1]; exact S1.out
            rw [← hw1]
            clear hw1 hd1 S1
            obtain ⟨R1, R2, hpm, hx⟩ := HPA.out.rot HT.out HR.out hb hrot
            have hz1 : d1.size = d.size := hrot.size
            have PM := Lib.hid hpm; have HX := Lib.hid hx; have HR2 := Lib.hid R2; have HZ1 := Lib.hid hz1
            clear hrot hpm hx R2
            obtain ⟨d2, hd2⟩ : ∃ d2, d2 = d1 := ⟨_, rfl⟩
            have M1 : Mrg le a mid d1 d2 := by rw [hd2]; exact R1.lone (by omega)
            obtain ⟨w2, hw2⟩ : ∃ w2, w2 = w1 := ⟨_, rfl⟩
            have S3 : SW (natV f) w0 blk off d2 w2 := by rw [hd2, hw2]; exact S2
            rw [← hw2]
            clear hw2 hd2 S2 R1 hz1
            all_goals have hz2 : d2.size = d.size := M1.perm.1.trans HZ1.out
            all_goals have R3 := HR2.out.of_perm h3 h4 M1.perm (.inl (Nat.le_refl _))
            all_goals have HM1 := Lib.hid M1; have HZ2 := Lib.hid hz2
            all_goals clear M1
            all_goals have htc := HIH.out mid e b d2 w2 (by omega) (by omega) (by omega) (by rw [hz2]; exact hb) (hs.trans hz2.symm) S3 R3
            all_goals rw [hz2] at htc
            all_goals have HTC := Lib.hid htc
            all_goals clear htc S3 R3 hz2
            all_goals go_wp2_with fail
            all_goals refine HTC.out.mono ?_
            all_goals rintro _ w3 ⟨rfl, d3, M2, S4⟩
            all_goals have HF := Lib.hid (HPA.out.merged hb PM.out HX.out HM1.out M2)
            all_goals have S5 := Lib.hid S4
            all_goals clear M2 S4
            all_goals go_wp2
            all_goals go_end0
            all_goals exact ⟨rfl, _, HF.out, S5.out⟩
        · as_aux_lemma =>
            obtain ⟨d1, hd1⟩ : ∃ d1, d1 = d := ⟨_, rfl⟩
            have hrot : Rot s m e d d1 := by rw [hd1]; rcases (by omega : s = m ∨ e = m) with q | q; (rw [q]; exact Rot.same_left m e d); (rw [q]; exact Rot.same_right s m d)
            obtain ⟨w1, hw1⟩ : ∃ w1, w1 = wr := ⟨_, rfl⟩
            have S2 : SW (natV f) w0 blk off d1 w1 := by rw [hd1, hw1]; exact S1.out
            rw [← hw1]
            clear hw1 hd1 S1
            obtain ⟨R1, R2, hpm, hx⟩ := HPA.out.rot HT.out HR.out hb hrot
            have hz1 : d1.size = d.size := hrot.size
            have PM := Lib.hid hpm; have HX := Lib.hid hx; have HR2 := Lib.hid R2; have HZ1 := Lib.hid hz1
            clear hrot hpm hx R2
            obtain ⟨d2, hd2⟩ : ∃ d2, d2 = d1 := ⟨_, rfl⟩
            have M1 : Mrg le a mid d1 d2 := by rw [hd2]; exact R1.lone (by omega)
            obtain ⟨w2, hw2⟩ : ∃ w2, w2 = w1 := ⟨_, rfl⟩
            have S3 : SW (natV f) w0 blk off d2 w2 := by rw [hd2, hw2]; exact S2
            rw [← hw2]
            clear hw2 hd2 S2 R1 hz1
            all_goals have hz2 : d2.size = d.size := M1.perm.1.trans HZ1.out
            all_goals have R3 := HR2.out.of_perm h3 h4 M1.perm (.inl (Nat.le_refl _))
            all_goals have HM1 := Lib.hid M1; have HZ2 := Lib.hid hz2
            all_goals clear M1
            all_goals have HF := Lib.hid (HPA.out.merged hb PM.out HX.out HM1.out (R3.lone (by omega)))
            all_goals have S5 := Lib.hid S3
            all_goals clear S3 R3 hz2
            all_goals go_wp2
            all_goals go_end0
            all_goals exact ⟨rfl, _, HF.out, S5.out⟩

theorem sym_all {f : Nat → Nat} {blk off cap : Nat} {d0 : Array Nat} {w0 : World} {cf : Nat → Nat → Int} {le : Nat → Nat → Prop} (tr : ∀ x y z, le x y → le y z → le x z) {g : Nat} {cb : Array Value}
    (eg : ∀ args w, (callFunc g args).run Try.prog w = .ok (.enter g args) w) (hcmp : CmpLays1 Try.prog g cb (natV f) cf blk off d0.size w0) (R : Row1 (natV f) w0 blk off d0) (hsz : d0.size < 4611686018427387904) :
    ∀ N, SymIH f cf le g cb d0 w0 blk off cap N
  | 0 => fun _ _ _ _ _ h => absurd h (by omega)
  | N + 1 => fun a m b d w h1 h2 h3 h4 h5 h6 h7 => by
    have ih := sym_all tr eg hcmp R hsz (cap := cap) N
    by_cases c1 : m = a + 1
    · exact sym_first tr eg hcmp R h5 h6 c1 h3 h4 (by omega) h7
    · by_cases c2 : b = m + 1
      · exact sym_last tr eg hcmp R h5 h6 c2 (by omega) h4 (by omega) h7
      · exact sym_rest tr eg hcmp R h5 h6 (by omega) (by omega) h4 (by omega) h7 (fun a' m' b' d' w' g1 g2 g3 g4 g5 g6 g7 => ih a' m' b' d' w' (by omega) g2 g3 g4 g5 g6 g7)

/-- two runs of ints merged -/
theorem sym_any {f : Nat → Nat} {blk off cap a m b : Nat} {d0 d : Array Nat} {w0 w : World} {cf : Nat → Nat → Int} {le : Nat → Nat → Prop} (tr : ∀ x y z, le x y → le y z → le x z) {g : Nat} {cb : Array Value}
    (eg : ∀ args w, (callFunc g args).run Try.prog w = .ok (.enter g args) w) (hcmp : CmpLays1 Try.prog g cb (natV f) cf blk off d0.size w0) (R : Row1 (natV f) w0 blk off d0) (hs : d0.size = d.size) (S : SW (natV f) w0 blk off d w)
    (ham : a < m) (hmb : m < b) (hb : b ≤ d.size) (hsz : d.size < 4611686018427387904) (hr : Runs (ltOf cf) le a m b d) :
    Calls Try.prog 155 #[.slice (some ⟨blk, off, none⟩) d.size cap, .int .i64 a, .int .i64 m, .int .i64 b, .func (.func g) #[] cb] w fun e w' => e = .returned (.tuple #[]) ∧ ∃ d', Mrg le a b d d' ∧ SW (natV f) w0 blk off d' w' :=
  sym_all tr eg hcmp R (by omega) (b - a + 1) a m b d w (by omega) ham hmb hb hs S hr
end Go.Proofs.Ytgnigkghkldcfaa

/-! slices.stableCmpFunc and SortStableFunc at fewer than 40 ints: sorted, and what is equal stands as it stood. -/
namespace Go.Proofs.Ytgnigkghkldcfaa
open Go.RowKit Go.Proofs Go.Lib Go.Sort Go.Shelf

set_option maxHeartbeats 4000000 in
set_option maxRecDepth 1000000 in
theorem stable_any {f : Nat → Nat} {blk off cap n : Nat} {d : Array Nat} {w : World} {cf : Nat → Nat → Int} {le : Nat → Nat → Prop} (tr : ∀ x y z, le x y → le y z → le x z) {g : Nat} {cb : Array Value}
    (eg : ∀ args w, (callFunc g args).run Try.prog w = .ok (.enter g args) w) (hcmp : CmpLays1 Try.prog g cb (natV f) cf blk off d.size w) (R : Row1 (natV f) w blk off d) (hn : n = d.size) (h40 : n < 40) (hr : Right2 (ltOf cf) le 0 d.size d) :
    Calls Try.prog 132 #[.slice (some ⟨blk, off, none⟩) n cap, .int .i64 n, .func (.func g) #[] cb] w fun e w' => e = .returned (.tuple #[]) ∧ ∃ d', Mrg le 0 d.size d d' ∧ SW (natV f) w blk off d' w' := by
  have S0 : SW (natV f) w blk off d w := SW.start R.hH
  have hsz : d.size < 4611686018427387904 := by omega
  by_cases h20 : n < 20
  · have h1 := Try.insertionSortCmpFunc_s (natV f) cf g cb blk off cap 0 d.size d d w w eg hcmp R rfl S0 (Nat.zero_le _) (Nat.le_refl _) hsz
    have hm := insertion_srt tr (Nat.zero_le _) (Nat.le_refl _) hr
    have HM := Lib.hid hm
    have HC := Lib.hid (show Calls Try.prog 154 #[.slice (some ⟨blk, off, none⟩) n cap, .int .i64 0, .int .i64 n, .func (.func g) #[] cb] w fun e w' => e = .returned (.tuple #[]) ∧ SW (natV f) w blk off (Sort.insertionSort (ltOf cf) d 0 d.size) w' by rw [hn]; exact h1)
    have z1 : ¬ (20 : Int) ≤ (n : Int) := by omega
    have z2 : ¬ (20 : Int) < (n : Int) := by omega
    clear h1 hm hcmp R S0 hr tr hn
    go_enter Try.func132, Try.ntmps132
    go_wp2
    refine wp_loop_rounds 1 ?_
    rw [rounds_succ]
    go_wp2_with fail
    refine HC.out.mono ?_
    rintro e w1 ⟨rfl, S1⟩
    have HS := Lib.hid S1
    clear S1
    go_wp2
    refine wp_loop_rounds 1 ?_
    rw [rounds_succ]
    go_wp2
    go_end0
    exact ⟨rfl, _, HM.out, HS.out⟩
  · have hn20 : 20 ≤ d.size := by omega
    have h1 := Try.insertionSortCmpFunc_s (natV f) cf g cb blk off cap 0 20 d d w w eg hcmp R rfl S0 (Nat.zero_le _) hn20 hsz
    have m1 := insertion_srt tr (Nat.zero_le 20) hn20 (hr.mono (Nat.le_refl _) hn20)
    obtain ⟨d1, hd1⟩ : ∃ d1, d1 = Sort.insertionSort (ltOf cf) d 0 20 := ⟨_, rfl⟩
    rw [← hd1] at h1 m1
    have z1 : d1.size = d.size := m1.perm.1
    have hr1 : Right2 (ltOf cf) le 20 d.size d1 := (hr.mono (Nat.zero_le _) (Nat.le_refl _)).same (fun k k1 _ => m1.perm.2.1 k (.inr k1))
    have m2 := insertion_srt tr hn20 (by omega : d.size ≤ d1.size) hr1
    obtain ⟨d2, hd2⟩ : ∃ d2, d2 = Sort.insertionSort (ltOf cf) d1 20 d.size := ⟨_, rfl⟩
    have hruns := hr.runs (Nat.le_refl _) m1 (by rw [← hd2] at m2; exact m2)
    have hp := permIn_trans _ _ _ _ _ (permIn_mono _ _ _ _ 0 d.size (Nat.le_refl _) hn20 (Nat.le_refl _) m1.perm) (permIn_mono _ _ _ _ 0 d.size (Nat.zero_le _) (Nat.le_refl _) (by omega) m2.perm)
    rw [← hd2] at hp m2
    have z2 : d2.size = d.size := hp.1
    have H1 := Lib.hid (show Calls Try.prog 154 #[.slice (some ⟨blk, off, none⟩) n cap, .int .i64 0, .int .i64 20, .func (.func g) #[] cb] w fun e w' => e = .returned (.tuple #[]) ∧ SW (natV f) w blk off d1 w' by rw [hn]; exact h1)
    have H2 := Lib.hid (fun (w1 : World) (S1 : SW (natV f) w blk off d1 w1) => (show Calls Try.prog 154 #[.slice (some ⟨blk, off, none⟩) n cap, .int .i64 20, .int .i64 n, .func (.func g) #[] cb] w1 fun e w' => e = .returned (.tuple #[]) ∧ SW (natV f) w blk off d2 w' by
      have h := Try.insertionSortCmpFunc_s (natV f) cf g cb blk off cap 20 d.size d d1 w w1 eg hcmp R z1.symm S1 hn20 (by omega) (by omega)
      rw [hd2, hn, ← z1]; rw [← z1] at h; exact h))
    have H3 := Lib.hid (fun (w2 : World) (S2 : SW (natV f) w blk off d2 w2) (hl : 20 < n) => (show Calls Try.prog 155 #[.slice (some ⟨blk, off, none⟩) n cap, .int .i64 0, .int .i64 20, .int .i64 n, .func (.func g) #[] cb] w2 fun e w' => e = .returned (.tuple #[]) ∧ ∃ d', Mrg le 0 d.size d2 d' ∧ SW (natV f) w blk off d' w' by
      have h := sym_any tr eg hcmp R z2.symm S2 (by omega : 0 < 20) (by omega : 20 < d.size) (by omega) (by omega) hruns (cap := cap)
      rw [z2] at h
      rw [hn]; exact h))
    have HP := Lib.hid hp
    have HM : Hid (n = 20 → Srt le 0 d.size d2) := fun e => by
      intro i j h1 h2 h3
      exact hruns.left i j h1 h2 (by omega)
    have y1 : (20 : Int) ≤ (n : Int) := by omega
    have y2 : ¬ (40 : Int) ≤ (n : Int) := by omega
    have y3 : ¬ (40 : Int) < (n : Int) := by omega
    clear h1 m1 m2 hd1 hd2 z1 hr1 hruns hp hcmp R S0 hr tr z2 hn20 hsz hn
    by_cases hl : n = 20
    · have y4 : ¬ (20 : Int) < (n : Int) := by omega
      have HN := Lib.hid hl
      clear hl
      go_enter Try.func132, Try.ntmps132
      go_wp2
      refine wp_loop_rounds 2 ?_
      rw [rounds_succ]
      go_wp2_with fail
      with_reducible refine H1.out.mono ?_
      rintro e w1 ⟨rfl, S1⟩
      have HS1 := Lib.hid S1
      clear S1
      go_wp2
      rw [rounds_succ]
      go_wp2_with fail
      with_reducible refine (H2.out _ HS1.out).mono ?_
      rintro e w2 ⟨rfl, S2⟩
      have HS2 := Lib.hid S2
      clear S2
      go_wp2
      refine wp_loop_rounds 1 ?_
      rw [rounds_succ]
      go_wp2
      go_end0
      exact ⟨rfl, d2, ⟨HP.out, HM.out HN.out⟩, HS2.out⟩
    · have y4 : (20 : Int) < (n : Int) := by omega
      have HL : Hid (20 < n) := (by omega : 20 < n)
      clear hl
      go_enter Try.func132, Try.ntmps132
      go_wp2
      refine wp_loop_rounds 2 ?_
      rw [rounds_succ]
      go_wp2_with fail
      with_reducible refine H1.out.mono ?_
      rintro e w1 ⟨rfl, S1⟩
      have HS1 := Lib.hid S1
      clear S1
      go_wp2
      rw [rounds_succ]
      go_wp2_with fail
      with_reducible refine (H2.out _ HS1.out).mono ?_
      rintro e w2 ⟨rfl, S2⟩
      have HS2 := Lib.hid S2
      clear S2
      go_wp2
      refine wp_loop_rounds 2 ?_
      rw [rounds_succ]
      go_wp2
      refine wp_loop_rounds 1 ?_
      rw [rounds_succ]
      go_wp2_with fail
      with_reducible refine (H3.out _ HS2.out HL.out).mono ?_
      rintro e w3 ⟨rfl, d3, M3, S3⟩
      have HF := Lib.hid (Mrg.trans HP.out M3 (Nat.le_refl _) (Nat.le_refl _) (Nat.le_refl _))
      have HS3 := Lib.hid S3
      clear M3 S3
      go_wp2
      rw [rounds_succ]
      go_wp2
      go_end0
      exact ⟨rfl, d3, HF.out, HS3.out⟩

set_option maxRecDepth 100000 in
theorem sortStable_any {f : Nat → Nat} {blk off cap n : Nat} {d : Array Nat} {w : World} {cf : Nat → Nat → Int} {le : Nat → Nat → Prop} (tr : ∀ x y z, le x y → le y z → le x z) {g : Nat} {cb : Array Value}
    (eg : ∀ args w, (callFunc g args).run Try.prog w = .ok (.enter g args) w) (hcmp : CmpLays1 Try.prog g cb (natV f) cf blk off d.size w) (R : Row1 (natV f) w blk off d) (hn : n = d.size) (h40 : n < 40) (hr : Right2 (ltOf cf) le 0 d.size d) :
    Calls Try.prog 114 #[.slice (some ⟨blk, off, none⟩) n cap, .func (.func g) #[] cb] w fun e w' => e = .returned (.tuple #[]) ∧ ∃ d', Mrg le 0 d.size d d' ∧ SW (natV f) w blk off d' w' := by
  have HC := Lib.hid (stable_any tr eg hcmp R hn h40 hr (cap := cap))
  have h40' : (n : Int) < 40 := by omega
  clear hcmp R hn hr tr
  go_enter Try.func114, Try.ntmps114
  go_wp2_with fail
  refine HC.out.mono ?_
  rintro e w1 ⟨rfl, d1, M1, S1⟩
  have HM := Lib.hid M1; have HS := Lib.hid S1
  clear M1 S1
  go_wp2
  go_end0
  exact ⟨rfl, d1, HM.out, HS.out⟩
end Go.Proofs.Ytgnigkghkldcfaa
