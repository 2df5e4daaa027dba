/-
  Plain laws: the place of a name in a rising row, by which coldstoreref06 finds, takes out and puts in.
-/
import Derived.Test.YtlajejbglpggeaaListsLaw
namespace Go.Proofs.Ytlajejbglpggeaa
open Go.RowKit Go.Proofs Go.Lib

section
variable {α : Type}
def posK (m : List (Bs × α)) (k : Bs) : Nat := (m.takeWhile (fun e => bytesBefore e.1 k)).length

theorem takeWhile_at {p : α → Bool} : ∀ {m : List α} {k : Nat}, (∀ e ∈ m.take k, p e = true) → k ≤ m.length → (∀ e, m[k]? = some e → p e = false) → (m.takeWhile p).length = k
  | [], k, _, hk, _ => by simp at hk; subst hk; rfl
  | x :: r, 0, _, _, h => by
    have := h x rfl
    rw [List.takeWhile_cons_of_neg (by simp [this])]; rfl
  | x :: r, k + 1, h1, hk, h2 => by
    have hx := h1 x (by simp)
    rw [List.takeWhile_cons_of_pos hx, List.length_cons, takeWhile_at (k := k) (fun e he => h1 e (by rw [List.take_succ_cons]; exact List.mem_cons_of_mem _ he)) (by simpa using hk) (fun e he => h2 e (by simpa using he))]

theorem posK_at {m : List (Bs × α)} {k : Bs} {i : Nat} (h1 : ∀ e ∈ m.take i, bytesBefore e.1 k = true) (hi : i ≤ m.length) (h2 : ∀ e, m[i]? = some e → bytesBefore e.1 k = false) : posK m k = i := takeWhile_at h1 hi h2
theorem posK_le (m : List (Bs × α)) (k : Bs) : posK m k ≤ m.length := by
  unfold posK
  exact (List.takeWhile_prefix _).length_le

theorem posK_nil (k : Bs) : posK ([] : List (Bs × α)) k = 0 := rfl
theorem posK_pos {x : Bs × α} {r : List (Bs × α)} {k : Bs} (h : bytesBefore x.1 k = true) : posK (x :: r) k = posK r k + 1 := by
  unfold posK; rw [List.takeWhile_cons, if_pos h]; rfl
theorem posK_neg {x : Bs × α} {r : List (Bs × α)} {k : Bs} (h : bytesBefore x.1 k = false) : posK (x :: r) k = 0 := by
  unfold posK; rw [List.takeWhile_cons, if_neg (by simp [h])]; rfl

/-- what stands at the place -/
theorem posK_found : ∀ {m : List (Bs × α)}, Rising m → ∀ k : Bs, (lk m k).isSome = (match m[posK m k]? with | some e => e.1 == k | none => false)
  | [], _, k => rfl
  | x :: r, h, k => by
    obtain ⟨h1, h2⟩ := List.pairwise_cons.1 h
    by_cases hb : bytesBefore x.1 k = true
    · rw [posK_pos hb, List.getElem?_cons_succ, lk_cons, if_neg (by simp; exact before_ne hb)]
      exact posK_found h2 k
    · have hb' : bytesBefore x.1 k = false := by simpa using hb
      rw [posK_neg hb', List.getElem?_cons_zero, lk_cons]
      by_cases he : (x.1 == k) = true
      · rw [if_pos he]; simp [he]
      · rw [if_neg he]
        have hne : x.1 ≠ k := by simpa using he
        have : lk r k = none := lk_none_iff.2 (fun y hy => by
          have h3 := before_trans (a := k) (b := x.1) (c := y.1) (by
            rcases before_total hne with h | h
            · rw [h] at hb'; cases hb'
            · exact h) (h1 y hy)
          exact (before_ne h3).symm)
        rw [this]
        simpa using he
theorem posK_some {m : List (Bs × α)} (h : Rising m) {k : Bs} {v : α} (hk : lk m k = some v) : m[posK m k]? = some (k, v) := by
  have hf := posK_found h k
  rw [hk] at hf
  cases hm : m[posK m k]? with
  | none => rw [hm] at hf; cases hf
  | some e =>
    rw [hm] at hf
    simp at hf
    have hm' := List.mem_of_getElem? hm
    have := lk_of_mem h (k := e.1) (v := e.2) hm'
    rw [hf, hk] at this
    cases this
    rw [← hf]

theorem eraseIdx_pos : ∀ {m : List (Bs × α)}, Rising m → ∀ {k : Bs} {v : α}, lk m k = some v → m.take (posK m k) ++ m.drop (posK m k + 1) = delK k m
  | [], _, k, v, h => by simp [lk] at h
  | x :: r, h, k, v, hk => by
    obtain ⟨h1, h2⟩ := List.pairwise_cons.1 h
    by_cases hb : bytesBefore x.1 k = true
    · have hne := before_ne hb
      rw [lk_cons, if_neg (by simpa using hne)] at hk
      rw [posK_pos hb, List.take_succ_cons, List.drop_succ_cons, List.cons_append, eraseIdx_pos h2 hk]
      unfold delK
      rw [List.filter_cons_of_pos (by simpa using hne)]
    · have hb' : bytesBefore x.1 k = false := by simpa using hb
      have hs := posK_some h hk
      rw [posK_neg hb', List.getElem?_cons_zero] at hs
      cases hs
      rw [posK_neg hb']
      unfold delK
      rw [List.filter_cons_of_neg (by simp)]
      simp
      exact (delK_above (fun y hy => (before_ne (h1 y hy)).symm)).symm

theorem posK_del : ∀ {m : List (Bs × α)}, Rising m → ∀ k : Bs, posK (delK k m) k = posK m k
  | [], _, k => rfl
  | x :: r, h, k => by
    obtain ⟨h1, h2⟩ := List.pairwise_cons.1 h
    by_cases hb : bytesBefore x.1 k = true
    · have hne := before_ne hb
      have e : delK k (x :: r) = x :: delK k r := by
        unfold delK
        rw [List.filter_cons_of_pos (by simpa using hne)]
      rw [e, posK_pos hb, posK_pos hb, posK_del h2 k]
    · have hb' : bytesBefore x.1 k = false := by simpa using hb
      rw [posK_neg hb']
      by_cases he : x.1 = k
      · subst he
        have e : delK x.1 (x :: r) = r := by
          unfold delK
          rw [List.filter_cons_of_neg (by simp)]
          exact delK_above (fun y hy => (before_ne (h1 y hy)).symm)
        rw [e]
        cases r with
        | nil => rfl
        | cons y r => exact posK_neg (before_asymm (h1 y (by simp)))
      · have e : delK k (x :: r) = x :: delK k r := by
          unfold delK
          rw [List.filter_cons_of_pos (by simpa using he)]
        rw [e, posK_neg hb']

theorem insK_pos (k : Bs) (v : α) : ∀ {m : List (Bs × α)}, Rising m → (∀ y ∈ m, y.1 ≠ k) → m.take (posK m k) ++ ([(k, v)] ++ m.drop (posK m k)) = insK (k, v) m
  | [], _, _ => rfl
  | x :: r, h, hn => by
    obtain ⟨h1, h2⟩ := List.pairwise_cons.1 h
    have hne : x.1 ≠ k := hn x (by simp)
    unfold insK
    dsimp only
    by_cases hb : bytesBefore x.1 k = true
    · rw [posK_pos hb, if_neg (by rw [before_asymm hb]; simp), List.take_succ_cons, List.drop_succ_cons, List.cons_append, insK_pos k v h2 (fun y hy => hn y (by simp [hy]))]
    · have hb' : bytesBefore x.1 k = false := by simpa using hb
      have hk : bytesBefore k x.1 = true := by
        rcases before_total hne with h | h
        · rw [h] at hb'; cases hb'
        · exact h
      rw [posK_neg hb', if_pos hk]
      simp
theorem putK_pos {m : List (Bs × α)} (h : Rising m) (k : Bs) (v : α) : (delK k m).take (posK m k) ++ ([(k, v)] ++ (delK k m).drop (posK m k)) = putK k v m := by
  rw [← posK_del h k]
  exact insK_pos k v (rising_delK h) (fun y hy => (mem_delK.1 hy).2)
end
end Go.Proofs.Ytlajejbglpggeaa
