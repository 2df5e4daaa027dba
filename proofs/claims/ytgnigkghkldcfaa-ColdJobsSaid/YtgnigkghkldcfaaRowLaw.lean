/-
  Plain laws on rising rows of names: store, strike, look up, and how many bytes all have. No program in sight.
-/
import Derived.Test.YtgnigkghkldcfaaMapLaw
namespace Go.Proofs.Ytgnigkghkldcfaa

def sizeR (row : List (Bs × Bs)) : Nat := (row.map (·.2.length)).sum

theorem lk_le : ∀ (row : List (Bs × Bs)) (k : Bs), ((lk row k).getD []).length ≤ sizeR row
  | [], k => by simp [lk]
  | e :: r, k => by
    have ih := lk_le r k
    rw [lk_cons]
    unfold sizeR at *
    simp only [List.map_cons, List.sum_cons]
    split
    · simp
    · omega

def Rising {α : Type} (m : List (Bs × α)) : Prop := m.Pairwise (fun a b => bytesBefore a.1 b.1 = true)

theorem before_irrefl : ∀ a : Bs, bytesBefore a a = false
  | [] => rfl
  | a :: r => by simp [bytesBefore, before_irrefl r]
theorem before_trans : ∀ {a b c : Bs}, bytesBefore a b = true → bytesBefore b c = true → bytesBefore a c = true
  | [], [], _, h, _ => by simp [bytesBefore] at h
  | [], _ :: _, [], _, h => by simp [bytesBefore] at h
  | [], _ :: _, _ :: _, _, _ => rfl
  | _ :: _, [], _, h, _ => by simp [bytesBefore] at h
  | _ :: _, _ :: _, [], _, h => by simp [bytesBefore] at h
  | a :: r, b :: s, c :: t, h, k => by
    simp only [bytesBefore, Bool.or_eq_true, decide_eq_true_eq, Bool.and_eq_true, beq_iff_eq] at *
    rcases h with h | ⟨rfl, h⟩
    · rcases k with k | ⟨rfl, k⟩
      · exact .inl (UInt8.lt_trans h k)
      · exact .inl h
    · rcases k with k | ⟨rfl, k⟩
      · exact .inl k
      · exact .inr ⟨rfl, before_trans h k⟩
theorem before_total : ∀ {a b : Bs}, a ≠ b → bytesBefore a b = true ∨ bytesBefore b a = true
  | [], [], h => absurd rfl h
  | [], _ :: _, _ => .inl rfl
  | _ :: _, [], _ => .inr rfl
  | a :: r, b :: s, h => by
    simp only [bytesBefore, Bool.or_eq_true, decide_eq_true_eq, Bool.and_eq_true, beq_iff_eq]
    by_cases e : a = b
    · subst e
      rcases before_total (a := r) (b := s) (fun e => h (by rw [e])) with h' | h'
      · exact .inl (.inr ⟨rfl, h'⟩)
      · exact .inr (.inr ⟨rfl, h'⟩)
    · rcases UInt8.lt_or_lt_of_ne e with h' | h'
      · exact .inl (.inl h')
      · exact .inr (.inl h')
theorem before_asymm {a b : Bs} (h : bytesBefore a b = true) : bytesBefore b a = false := by
  cases hb : bytesBefore b a
  · rfl
  · have := before_trans h hb; rw [before_irrefl] at this; cases this
theorem before_ne {a b : Bs} (h : bytesBefore a b = true) : a ≠ b := by rintro rfl; rw [before_irrefl] at h; cases h

section
variable {α : Type}

theorem mem_insK (x : Bs × α) : ∀ (m : List (Bs × α)) (y : Bs × α), y ∈ insK x m ↔ y = x ∨ y ∈ m
  | [], y => by simp [insK]
  | z :: r, y => by
    unfold insK
    split
    · simp
    · simp only [List.mem_cons, mem_insK x r y]
      constructor
      · rintro (h | h | h)
        · exact .inr (.inl h)
        · exact .inl h
        · exact .inr (.inr h)
      · rintro (h | h | h)
        · exact .inr (.inl h)
        · exact .inl h
        · exact .inr (.inr h)
theorem length_insK (x : Bs × α) : ∀ m : List (Bs × α), (insK x m).length = m.length + 1
  | [] => rfl
  | z :: r => by unfold insK; split <;> simp [length_insK x r]
theorem mem_delK {k : Bs} {m : List (Bs × α)} {y : Bs × α} : y ∈ delK k m ↔ y ∈ m ∧ y.1 ≠ k := by
  unfold delK; simp [List.mem_filter]

theorem rising_insK {x : Bs × α} : ∀ {m : List (Bs × α)}, Rising m → (∀ y ∈ m, y.1 ≠ x.1) → Rising (insK x m)
  | [], _, _ => by simp [insK, Rising]
  | z :: r, h, hn => by
    obtain ⟨h1, h2⟩ := List.pairwise_cons.1 h
    unfold insK
    split
    · rename_i hb
      exact List.pairwise_cons.2 ⟨fun y hy => (List.mem_cons.1 hy).elim (fun e => by rw [e]; exact hb) (fun hy => before_trans hb (h1 y hy)), h⟩
    · rename_i hb
      have hzx : bytesBefore z.1 x.1 = true := (before_total (hn z (by simp))).resolve_right (by simpa using hb)
      refine List.pairwise_cons.2 ⟨fun y hy => ?_, rising_insK h2 (fun y hy => hn y (by simp [hy]))⟩
      rcases (mem_insK x r y).1 hy with rfl | hy
      · exact hzx
      · exact h1 y hy
theorem rising_delK {k : Bs} {m : List (Bs × α)} (h : Rising m) : Rising (delK k m) := h.filter _
theorem rising_putK {k : Bs} {v : α} {m : List (Bs × α)} (h : Rising m) : Rising (putK k v m) :=
  rising_insK (rising_delK h) (fun _ hy => (mem_delK.1 hy).2)
theorem mem_putK {k : Bs} {v : α} {m : List (Bs × α)} {y : Bs × α} (h : y ∈ putK k v m) : y = (k, v) ∨ y ∈ m := by
  rcases (mem_insK _ _ _).1 h with h | h
  · exact .inl h
  · exact .inr (mem_delK.1 h).1

theorem delK_none : ∀ {m : List (Bs × α)} {k : Bs}, lk m k = none → delK k m = m
  | [], _, _ => rfl
  | e :: r, k, h => by
    rw [lk_cons] at h
    by_cases hk : (e.1 == k) = true
    · rw [if_pos hk] at h; cases h
    · rw [if_neg hk] at h
      unfold delK
      rw [List.filter_cons_of_pos (by simpa using hk)]
      exact congrArg (e :: ·) (delK_none h)
theorem delK_above : ∀ {m : List (Bs × α)} {k : Bs}, (∀ y ∈ m, y.1 ≠ k) → delK k m = m := by
  intro m k h
  unfold delK
  rw [List.filter_eq_self]
  intro y hy
  simpa using h y hy
theorem lk_none_iff : ∀ {m : List (Bs × α)} {k : Bs}, lk m k = none ↔ ∀ y ∈ m, y.1 ≠ k
  | [], k => by simp [lk]
  | e :: r, k => by
    rw [lk_cons]
    by_cases hk : (e.1 == k) = true
    · rw [if_pos hk]
      simp only [beq_iff_eq] at hk
      simp [hk]
    · rw [if_neg hk, lk_none_iff]
      simp only [beq_iff_eq] at hk
      simp [hk]
theorem lk_mem : ∀ {m : List (Bs × α)} {k : Bs} {v : α}, lk m k = some v → (k, v) ∈ m
  | [], k, v, h => by simp [lk] at h
  | e :: r, k, v, h => by
    rw [lk_cons] at h
    by_cases hk : (e.1 == k) = true
    · rw [if_pos hk] at h
      simp only [beq_iff_eq] at hk
      cases h
      subst hk
      exact List.mem_cons_self
    · rw [if_neg hk] at h
      exact List.mem_cons_of_mem _ (lk_mem h)
theorem lk_of_mem : ∀ {m : List (Bs × α)}, Rising m → ∀ {k : Bs} {v : α}, (k, v) ∈ m → lk m k = some v
  | [], _, k, v, h => by simp at h
  | e :: r, hr, k, v, h => by
    obtain ⟨h1, h2⟩ := List.pairwise_cons.1 hr
    rw [lk_cons]
    rcases List.mem_cons.1 h with rfl | h
    · simp
    · rw [if_neg (by simpa using before_ne (h1 _ h))]
      exact lk_of_mem h2 h

theorem lk_insK_same (x : Bs × α) : ∀ m : List (Bs × α), (∀ y ∈ m, y.1 ≠ x.1) → lk (insK x m) x.1 = some x.2
  | [], _ => by simp [insK, lk_cons]
  | z :: r, h => by
    unfold insK
    split
    · simp [lk_cons]
    · rw [lk_cons, if_neg (by simpa using h z (by simp))]
      exact lk_insK_same x r (fun y hy => h y (by simp [hy]))
theorem lk_insK_other (x : Bs × α) {k : Bs} (hk : x.1 ≠ k) : ∀ m : List (Bs × α), lk (insK x m) k = lk m k
  | [] => by simp [insK, lk_cons, hk]
  | z :: r => by
    unfold insK
    split
    · rw [lk_cons, if_neg (by simpa using hk)]
    · rw [lk_cons, lk_cons, lk_insK_other x hk r]
theorem lk_delK_same (k : Bs) (m : List (Bs × α)) : lk (delK k m) k = none := lk_none_iff.2 (fun _ hy => (mem_delK.1 hy).2)
theorem lk_delK_other {k k' : Bs} (hk : k ≠ k') : ∀ m : List (Bs × α), lk (delK k m) k' = lk m k'
  | [] => rfl
  | z :: r => by
    unfold delK
    by_cases h : z.1 = k
    · rw [List.filter_cons_of_neg (by simpa using h), lk_cons, if_neg (by rw [h]; simpa using hk)]
      exact lk_delK_other hk r
    · rw [List.filter_cons_of_pos (by simpa using h), lk_cons, lk_cons]
      split
      · rfl
      · exact lk_delK_other hk r
theorem lk_putK_same (k : Bs) (v : α) (m : List (Bs × α)) : lk (putK k v m) k = some v := lk_insK_same (k, v) _ (fun _ hy => (mem_delK.1 hy).2)
theorem lk_putK_other {k k' : Bs} (hk : k ≠ k') (v : α) (m : List (Bs × α)) : lk (putK k v m) k' = lk m k' := by
  unfold putK
  rw [lk_insK_other (k, v) hk, lk_delK_other hk]

theorem length_delK : ∀ {m : List (Bs × α)}, Rising m → ∀ k : Bs, (delK k m).length + (if (lk m k).isSome then 1 else 0) = m.length
  | [], _, k => by simp [delK, lk]
  | z :: r, h, k => by
    obtain ⟨h1, h2⟩ := List.pairwise_cons.1 h
    rw [lk_cons]
    by_cases hk : (z.1 == k) = true
    · rw [if_pos hk]
      simp only [beq_iff_eq] at hk
      subst hk
      have : delK z.1 (z :: r) = r := by
        unfold delK
        rw [List.filter_cons_of_neg (by simp)]
        exact delK_above (fun y hy => (before_ne (h1 y hy)).symm)
      rw [this]; simp
    · rw [if_neg hk]
      have := length_delK h2 k
      have e : delK k (z :: r) = z :: delK k r := by unfold delK; rw [List.filter_cons_of_pos (by simpa using hk)]
      rw [e]; simp only [List.length_cons]; omega
theorem length_putK {m : List (Bs × α)} (h : Rising m) (k : Bs) (v : α) : (putK k v m).length + (if (lk m k).isSome then 1 else 0) = m.length + 1 := by
  have := length_delK h k
  unfold putK
  rw [length_insK]; omega
theorem length_putK_le {m : List (Bs × α)} (h : Rising m) (k : Bs) (v : α) : (putK k v m).length ≤ m.length + 1 := by
  have := length_putK h k v; omega
theorem length_putK_some {m : List (Bs × α)} (h : Rising m) (k : Bs) (v : α) (hs : (lk m k).isSome = true) : (putK k v m).length = m.length := by
  have := length_putK h k v
  rw [if_pos hs] at this; omega
end

theorem sizeR_cons (e : Bs × Bs) (r : List (Bs × Bs)) : sizeR (e :: r) = e.2.length + sizeR r := by simp [sizeR]
theorem sizeR_insK (x : Bs × Bs) : ∀ m : List (Bs × Bs), sizeR (insK x m) = x.2.length + sizeR m
  | [] => by simp [insK, sizeR]
  | z :: r => by
    unfold insK
    split
    · rw [sizeR_cons]
    · rw [sizeR_cons, sizeR_insK x r, sizeR_cons]; omega
theorem sizeR_delK : ∀ {m : List (Bs × Bs)}, Rising m → ∀ k : Bs, sizeR (delK k m) + ((lk m k).getD []).length = sizeR m
  | [], _, k => by simp [delK, lk, sizeR]
  | z :: r, h, k => by
    obtain ⟨h1, h2⟩ := List.pairwise_cons.1 h
    rw [lk_cons]
    by_cases hk : (z.1 == k) = true
    · rw [if_pos hk]
      simp only [beq_iff_eq] at hk
      subst hk
      have : delK z.1 (z :: r) = r := by
        unfold delK
        rw [List.filter_cons_of_neg (by simp)]
        exact delK_above (fun y hy => (before_ne (h1 y hy)).symm)
      rw [this, sizeR_cons]; simp; omega
    · rw [if_neg hk]
      have := sizeR_delK h2 k
      have e : delK k (z :: r) = z :: delK k r := by unfold delK; rw [List.filter_cons_of_pos (by simpa using hk)]
      rw [e, sizeR_cons, sizeR_cons]; omega
theorem sizeR_putK {m : List (Bs × Bs)} (h : Rising m) (k v : Bs) : sizeR (putK k v m) + ((lk m k).getD []).length = sizeR m + v.length := by
  have := sizeR_delK h k
  unfold putK
  rw [sizeR_insK]; simp only; omega

/-! ### in step -/
theorem All2.insK {α β : Type} {R : Bs × α → Bs × β → Prop} (hR : ∀ a b, R a b → a.1 = b.1) {x : Bs × α} {y : Bs × β} (hxy : R x y) : ∀ {l : List (Bs × α)} {m : List (Bs × β)}, All2 R l m → All2 R (insK x l) (insK y m)
  | [], [], _ => ⟨hxy, trivial⟩
  | a :: l, b :: m, h => by
    unfold Ytgnigkghkldcfaa.insK
    rw [hR _ _ hxy, hR _ _ h.1]
    split
    · exact ⟨hxy, h⟩
    · exact ⟨h.1, All2.insK hR hxy h.2⟩
  | [], _ :: _, h => h.elim
  | _ :: _, [], h => h.elim
theorem All2.delK {α β : Type} {R : Bs × α → Bs × β → Prop} (hR : ∀ a b, R a b → a.1 = b.1) {k : Bs} {l : List (Bs × α)} {m : List (Bs × β)} (h : All2 R l m) : All2 R (delK k l) (delK k m) :=
  All2.filter h (fun a b hab => by rw [hR _ _ hab])
theorem All2.keys {α β : Type} {R : Bs × α → Bs × β → Prop} (hR : ∀ a b, R a b → a.1 = b.1) : ∀ {l : List (Bs × α)} {m : List (Bs × β)}, All2 R l m → l.map (·.1) = m.map (·.1)
  | [], [], _ => rfl
  | a :: l, b :: m, h => by rw [List.map_cons, List.map_cons, hR _ _ h.1, All2.keys hR h.2]
  | [], _ :: _, h => h.elim
  | _ :: _, [], h => h.elim
end Go.Proofs.Ytgnigkghkldcfaa
