/-
  A plain law, no program in sight: no rune of a text is outside '!' to '~' just if no byte is.
-/
import Derived.Test.YtgnigkghkldcfaaBase
import Derived.Shelf.GgClosure.StringsIndexFuncTop
namespace Go.Proofs.Ytgnigkghkldcfaa
open Go.RowKit Go.Proofs

def badRune (r : Nat) : Bool := decide (r < 33) || decide (126 < r)
def badByte (c : UInt8) : Bool := badRune c.toNat
def nameOK (l : List UInt8) : Bool := decide (1 ≤ l.length) && decide (l.length ≤ 80) && l.all (fun c => !badByte c)

theorem get!_of (s : ByteArray) (i : Nat) (h : i < s.size) : s.get! i = s[i]'h := by
  simp [ByteArray.get!, getElem!_pos, h]; rfl

theorem decode_ge (s : ByteArray) (pos : Nat) (h : 128 ≤ (s.get! pos).toNat) : 128 ≤ (Utf8.decode s pos).1 := by
  unfold Utf8.decode
  simp only [Nat.add_zero]
  rw [if_neg (by omega)]
  split
  · split
    · assumption
    · simp [Utf8.runeError]
  · split
    · split
      · rename_i h2; simp at h2; simp; omega
      · simp [Utf8.runeError]
    · split
      · split
        · rename_i h2; simp at h2; simp; omega
        · simp [Utf8.runeError]
      · simp [Utf8.runeError]

theorem idx_bad (s : ByteArray) : ∀ (f pos : Nat), s.size ≤ pos + f → (0 ≤ Lib.idxFuncFrom badRune true s f pos ↔ ∃ (i : Nat) (h : i < s.size), pos ≤ i ∧ badByte (s[i]'h) = true)
  | 0, pos, hf => by
    simp [Lib.idxFuncFrom]
    intro i h hp
    omega
  | f + 1, pos, hf => by
    unfold Lib.idxFuncFrom
    by_cases hp : pos < s.size
    · rw [if_pos hp]
      by_cases hb : (s[pos]'hp).toNat < 128
      · rw [decode_ascii s pos hp hb]
        simp only
        by_cases hq : badByte (s[pos]'hp) = true
        · have hq' : badRune (s[pos]'hp).toNat = true := hq
          rw [if_pos hq']
          exact ⟨fun _ => ⟨pos, hp, Nat.le_refl _, hq⟩, fun _ => by omega⟩
        · have hq' : ¬ badRune (s[pos]'hp).toNat = true := hq
          rw [if_neg hq', idx_bad s f (pos + 1) (by omega)]
          constructor
          · rintro ⟨i, h, h1, h2⟩
            exact ⟨i, h, by omega, h2⟩
          · rintro ⟨i, h, h1, h2⟩
            refine ⟨i, h, ?_, h2⟩
            rcases Nat.lt_or_ge pos i with h3 | h3
            · exact h3
            · obtain rfl : i = pos := by omega
              exact absurd h2 hq
      · have hd : 128 ≤ (Utf8.decode s pos).1 := decode_ge s pos (by rw [get!_of s pos hp]; omega)
        rw [if_pos (by simp [badRune]; omega)]
        refine ⟨fun _ => ⟨pos, hp, Nat.le_refl _, by simp [badByte, badRune]; omega⟩, fun _ => by omega⟩
    · rw [if_neg hp]
      simp
      intro i h h1
      omega

theorem idx_name (s : ByteArray) : decide (0 ≤ Lib.idxFunc badRune true s) = s.data.toList.any badByte := by
  rw [Bool.eq_iff_iff, decide_eq_true_eq, List.any_eq_true]
  unfold Lib.idxFunc
  rw [idx_bad s s.size 0 (by omega)]
  constructor
  · rintro ⟨i, h, _, hb⟩
    exact ⟨s[i]'h, by rw [Array.mem_toList_iff]; exact Array.getElem_mem (xs := s.data) h, hb⟩
  · rintro ⟨x, hx, hb⟩
    rw [Array.mem_toList_iff] at hx
    obtain ⟨i, h, e⟩ := Array.getElem_of_mem hx
    exact ⟨i, h, Nat.zero_le _, by show badByte (s.data[i]) = true; rw [e]; exact hb⟩
end Go.Proofs.Ytgnigkghkldcfaa
