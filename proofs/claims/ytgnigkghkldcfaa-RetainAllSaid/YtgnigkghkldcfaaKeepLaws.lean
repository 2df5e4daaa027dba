/-
  Plain laws on which snapshots are kept: by their places in the sorted list. No program in sight.
-/
import Derived.Test.YtgnigkghkldcfaaBy1

/-! Plain laws on which snapshots are kept: by their places in the sorted list. No program in sight. -/
namespace Go.Proofs.Ytgnigkghkldcfaa
open Go.RowKit Go.Proofs Go.Lib Go.Sort

/-- the first of the kinds: by how many stand behind, by nearness, by the tag -/
def keepAt (L : List SnapR) (P : List Nat) (p : PolR) (x : Nat × Nat) : Bool :=
  decide ((P.length : Int) - x.1 ≤ max p.last 0) || aboveV L[x.2]!.time L[P[P.length - 1]!]!.time p.within || (!(p.tag == ([] : Bs)) && (L[x.2]!.tag == p.tag))
def firstB (L : List SnapR) (P : List Nat) (p : PolR) (xs : List (Nat × Nat)) : List Bool := xs.foldl (fun B x => B.set x.2 (keepAt L P p x)) (List.replicate L.length false)
/-- which are kept, at each place of the list -/
def keepB (L : List SnapR) (P : List Nat) (p : PolR) (D : List Int) : List Bool := byB L P p.day (firstB L P p (backs P)) (D.take p.days.toNat)

theorem nodup_at {α : Type} {l : List α} (h : l.Nodup) {i j : Nat} {hi : i < l.length} {hj : j < l.length} (e : l[i] = l[j]) : i = j := by
  rcases Nat.lt_trichotomy i j with h1 | h1 | h1
  · exact absurd e (List.pairwise_iff_getElem.1 h i j hi hj h1)
  · exact h1
  · exact absurd e.symm (List.pairwise_iff_getElem.1 h j i hj hi h1)
theorem sets_len {f : Nat × Nat → Bool} : ∀ (xs : List (Nat × Nat)) (B : List Bool), (xs.foldl (fun B x => B.set x.2 (f x)) B).length = B.length
  | [], _ => rfl
  | x :: r, B => (sets_len r _).trans (by simp)
theorem firstB_len (L : List SnapR) (P : List Nat) (p : PolR) (xs : List (Nat × Nat)) : (firstB L P p xs).length = L.length := by
  unfold firstB; rw [sets_len]; simp
theorem keepB_len (L : List SnapR) (P : List Nat) (p : PolR) (D : List Int) : (keepB L P p D).length = L.length := by
  unfold keepB; rw [byB_len, firstB_len]
theorem sets_not {f : Nat × Nat → Bool} : ∀ (xs : List (Nat × Nat)) (B : List Bool) (i : Nat), i ∉ xs.map (·.2) → (xs.foldl (fun B x => B.set x.2 (f x)) B)[i]? = B[i]?
  | [], _, _, _ => rfl
  | x :: r, B, i, h => by
    simp only [List.map_cons, List.mem_cons, not_or] at h
    refine (sets_not r _ i h.2).trans ?_
    rw [List.getElem?_set]
    rw [if_neg (fun e => h.1 e.symm)]
theorem sets_at {f : Nat × Nat → Bool} : ∀ (xs : List (Nat × Nat)) (B : List Bool) (x : Nat × Nat), (xs.map (·.2)).Nodup → x ∈ xs → x.2 < B.length → (xs.foldl (fun B x => B.set x.2 (f x)) B)[x.2]? = some (f x)
  | y :: r, B, x, hd, hx, hl => by
    simp only [List.map_cons, List.nodup_cons] at hd
    rcases List.mem_cons.1 hx with rfl | hx
    · refine (sets_not r _ x.2 hd.1).trans ?_
      rw [List.getElem?_set]
      simp [hl]
    · exact sets_at r _ x hd.2 hx (by simpa using hl)
theorem byB_at (L : List SnapR) (P : List Nat) (day : Int) : ∀ (ds : List Int) (B : List Bool) (i : Nat) (b : Bool), B[i]? = some b → (byB L P day B ds)[i]? = some (b || ds.any (fun d => dayPick L P day d == some i))
  | [], B, i, b, h => by simpa [byB] using h
  | d :: r, B, i, b, h => by
    have h1 : (setDay L P day B d)[i]? = some (b || dayPick L P day d == some i) := by
      unfold setDay
      cases he : dayPick L P day d with
      | none => simpa using h
      | some j =>
        show (B.set j true)[i]? = _
        rw [List.getElem?_set]
        have hi := (List.getElem?_eq_some_iff.1 h).1
        by_cases e : j = i
        · subst e; simp [hi]
        · rw [if_neg e, h]; simp [e]
    have h2 := byB_at L P day r (setDay L P day B d) i _ h1
    show (byB L P day (setDay L P day B d) r)[i]? = _
    rw [h2]
    simp [Bool.or_assoc]
theorem pick_iff {L : List SnapR} {P : List Nat} {day d : Int} (hd : P.Nodup) {k : Nat} (hk : k < P.length) : dayPick L P day d = some P[k] ↔ dayOf L day P[k] = d ∧ ∀ j, k < j → (hj : j < P.length) → dayOf L day P[j] ≠ d := by
  unfold dayPick
  rw [List.find?_eq_some_iff_getElem]
  constructor
  · rintro ⟨h1, i, hi, e, h2⟩
    simp only [List.length_reverse] at hi
    rw [List.getElem_reverse] at e
    have e2 : P.length - 1 - i = k := nodup_at hd e
    refine ⟨by simpa using h1, fun j hj hj2 => ?_⟩
    have h3 := h2 (P.length - 1 - j) (by omega)
    rw [List.getElem_reverse] at h3
    have e3 : P.length - 1 - (P.length - 1 - j) = j := by omega
    simp only [e3] at h3
    simpa using h3
  · rintro ⟨h1, h2⟩
    refine ⟨by simpa using h1, P.length - 1 - k, by simp; omega, ?_, fun j hj => ?_⟩
    · rw [List.getElem_reverse]
      congr 1; omega
    · rw [List.getElem_reverse]
      have := h2 (P.length - 1 - j) (by omega) (by omega)
      simpa using this

/-- is the one at a place of the sorted list the last one of its day? -/
def lastOf (S : List SnapR) (day : Int) (k : Nat) : Bool := (List.range S.length).all (fun j => !(decide (k < j)) || !(S[j]!.time / day == S[k]!.time / day))
/-- is the one at a place of the sorted list kept? -/
def kpB (S : List SnapR) (D : List Int) (p : PolR) (k : Nat) : Bool :=
  decide ((S.length : Int) - k ≤ max p.last 0) || aboveV S[k]!.time S[S.length - 1]!.time p.within || (!(p.tag == ([] : Bs)) && (S[k]!.tag == p.tag)) || ((D.take p.days.toNat).contains (S[k]!.time / p.day) && lastOf S p.day k)
def rowOf (L : List SnapR) (P : List Nat) : List SnapR := P.map (fun i => L[i]!)
theorem rowOf_at (L : List SnapR) (P : List Nat) {k : Nat} (hk : k < P.length) : (rowOf L P)[k]! = L[P[k]!]! := by
  rw [getElem!_pos (rowOf L P) k (by simpa [rowOf] using hk), getElem!_pos P k hk]
  simp [rowOf]
theorem keepB_at {L : List SnapR} {P : List Nat} {p : PolR} {D : List Int} (hP : Places L P) {k : Nat} (hk : k < P.length) : (keepB L P p D)[P[k]!]? = some (kpB (rowOf L P) D p k) := by
  have hz : (rowOf L P).length = P.length := by simp [rowOf]
  have hlt : P[k]! < L.length := hP.lt (by rw [getElem!_pos P k hk]; exact List.getElem_mem _)
  have hm : (k, P[k]!) ∈ backs P := by
    unfold backs
    rw [List.mem_reverse, List.mem_map]
    exact ⟨k, by simpa using hk, rfl⟩
  have h1 : (firstB L P p (backs P))[P[k]!]? = some (keepAt L P p (k, P[k]!)) :=
    sets_at (backs P) _ (k, P[k]!) (by rw [backs_snd]; exact (List.reverse_perm P).nodup_iff.2 hP.nodup) hm (by simpa using hlt)
  unfold keepB
  rw [byB_at L P p.day _ _ _ _ h1]
  congr 1
  unfold keepAt kpB
  rw [hz, rowOf_at L P hk]
  have e0 : L[P[P.length - 1]!]! = (rowOf L P)[P.length - 1]! := (rowOf_at L P (by omega)).symm
  rw [e0]
  congr 1
  rw [Bool.eq_iff_iff, List.any_eq_true]
  rw [Bool.and_eq_true, List.contains_iff_mem]
  have hpk : P[k]! = P[k] := getElem!_pos P k hk
  constructor
  · rintro ⟨d, hd, h⟩
    rw [hpk] at h ⊢
    obtain ⟨g1, g2⟩ := (pick_iff hP.nodup hk).1 (by simpa using h)
    unfold dayOf at g1 g2
    refine ⟨g1 ▸ hd, ?_⟩
    unfold lastOf
    rw [List.all_eq_true]
    intro j hj
    rw [List.mem_range, hz] at hj
    by_cases hkj : k < j
    · have := g2 j hkj hj
      rw [rowOf_at L P hj, rowOf_at L P hk, hpk, getElem!_pos P j hj]
      simp only [hkj, decide_true, Bool.not_true, Bool.false_or, Bool.not_eq_true', beq_eq_false_iff_ne, ne_eq]
      rw [g1]; exact this
    · simp [hkj]
  · rintro ⟨h1, h2⟩
    refine ⟨_, h1, ?_⟩
    rw [hpk]
    have : dayPick L P p.day (L[P[k]]!.time / p.day) = some P[k] := by
      refine (pick_iff hP.nodup hk).2 ⟨rfl, fun j hkj hj => ?_⟩
      unfold lastOf at h2
      rw [List.all_eq_true] at h2
      have := h2 j (by rw [List.mem_range, hz]; exact hj)
      rw [rowOf_at L P hj, rowOf_at L P hk, hpk, getElem!_pos P j hj] at this
      simp only [hkj, decide_true, Bool.not_true, Bool.false_or, Bool.not_eq_true', beq_eq_false_iff_ne, ne_eq] at this
      exact this
    rw [this]; simp

/-- a row of snapshots that rises -/
def Rises (S : List SnapR) : Prop := S.Pairwise (fun a b => cmpS a b ≤ 0)
theorem Rises.eq {A B : List SnapR} (ha : Rises A) (hb : Rises B) (h : A.Perm B) : A = B :=
  h.eq_of_pairwise (fun a b _ _ h1 h2 => cmpS_zero (by have := wo_cmpS.anti a b; omega)) ha hb
theorem Places.rises {L : List SnapR} {P : List Nat} (hP : Places L P) : Rises (rowOf L P) := by
  unfold Rises rowOf
  rw [List.pairwise_map]
  exact hP.srt.imp (fun h => by rcases h with h | ⟨h, _⟩ <;> omega)
theorem map_range_self {α : Type} [Inhabited α] (L : List α) : (List.range L.length).map (fun i => L[i]!) = L := by
  apply List.ext_getElem
  · simp
  · intro i h1 h2
    simp only [List.getElem_map, List.getElem_range]
    exact getElem!_pos L i h2
theorem Places.perm_row {L : List SnapR} {P : List Nat} (hP : Places L P) : (rowOf L P).Perm L := by
  have := hP.perm.map (fun i => L[i]!)
  rw [map_range_self] at this
  exact this
/-- the sorted row is one for all orders of a list -/
theorem rows_eq {L L' : List SnapR} {P P' : List Nat} (h : L.Perm L') (hP : Places L P) (hP' : Places L' P') : rowOf L P = rowOf L' P' :=
  hP.rises.eq hP'.rises (hP.perm_row.trans (h.trans hP'.perm_row.symm))
theorem days_perm {L L' : List SnapR} {day : Int} {D D' : List Int} (h : L.Perm L') (hD : DaysOf L day D) (hD' : DaysOf L' day D') : D = D' :=
  falls_unique hD.falls hD'.falls fun x => (hD.mem x).trans (Iff.trans (by simp only [h.mem_iff]) (hD'.mem x).symm)
theorem Rises.time {S : List SnapR} (h : Rises S) {i j : Nat} (hij : i ≤ j) (hj : j < S.length) : S[i]!.time ≤ S[j]!.time := by
  by_cases e : i = j
  · rw [e]; exact Int.le_refl _
  · rw [getElem!_pos S i (by omega), getElem!_pos S j hj]
    exact cmpS_time (List.pairwise_iff_getElem.1 h i j (by omega) hj (by omega))

/-- what is kept of a row, with whether it is, by the sorted places -/
def kpRow (S : List SnapR) (D : List Int) (p : PolR) : List Bool := (List.range S.length).map (kpB S D p)
theorem kept_perm {L : List SnapR} {P : List Nat} {p : PolR} {D : List Int} (hP : Places L P) : (L.zip (keepB L P p D)).Perm ((rowOf L P).zip (kpRow (rowOf L P) D p)) := by
  have h1 : L.zip (keepB L P p D) = (List.range L.length).map (fun i => (L[i]!, (keepB L P p D)[i]!)) := by
    apply List.ext_getElem
    · simp [keepB_len]
    · intro i h1 h2
      simp only [List.getElem_zip, List.getElem_map, List.getElem_range]
      rw [getElem!_pos L i (by simp at h1; omega), getElem!_pos (keepB L P p D) i (by simp at h1; omega)]
  have h2 : (rowOf L P).zip (kpRow (rowOf L P) D p) = P.map (fun i => (L[i]!, (keepB L P p D)[i]!)) := by
    apply List.ext_getElem
    · simp [rowOf, kpRow]
    · intro k h1 h2
      simp only [List.length_map] at h2
      have := keepB_at (p := p) (D := D) hP h2
      rw [getElem!_pos P k h2] at this
      have e1 : (rowOf L P)[k]'(by simpa [rowOf] using h2) = L[P[k]]! := by simp [rowOf]
      have e2 : (kpRow (rowOf L P) D p)[k]'(by simpa [kpRow, rowOf] using h2) = (keepB L P p D)[P[k]]! := by
        rw [List.getElem!_eq_getElem?_getD, this]; simp [kpRow]
      rw [List.getElem_zip, List.getElem_map, e1, e2]
  rw [h1, h2]
  exact hP.perm.symm.map _
end Go.Proofs.Ytgnigkghkldcfaa

/-! Plain laws: what is kept with more asked for, of those that are left, of a list turned round, by days alone, by the last alone, by the tag, by nearness. No program in sight. -/
namespace Go.Proofs.Ytgnigkghkldcfaa
open Go.RowKit Go.Proofs Go.Lib Go.Sort

theorem kept_of {L : List SnapR} {P : List Nat} {p : PolR} {D : List Int} (hP : Places L P) {i : Nat} (hi : i < L.length) : ∃ k, k < L.length ∧ P[k]! = i ∧ (rowOf L P)[k]! = L[i]! ∧ (keepB L P p D)[i]? = some (kpB (rowOf L P) D p k) := by
  obtain ⟨k, hk, e⟩ := List.getElem_of_mem (hP.mem hi)
  have hpk : P[k]! = i := by rw [getElem!_pos P k hk, e]
  refine ⟨k, by rw [← hP.len]; exact hk, hpk, by rw [rowOf_at L P hk, hpk], ?_⟩
  rw [← hpk]
  exact keepB_at hP hk
theorem rowOf_len {L : List SnapR} {P : List Nat} (hP : Places L P) : (rowOf L P).length = L.length := by simp [rowOf, hP.len]

theorem above_zero (t l : Int) : aboveV t l 0 = false := by simp [aboveV]
theorem above_mono {t l l' w : Int} (h : aboveV t l w = true) (hl : l' ≤ l) : aboveV t l' w = true := by
  unfold aboveV at h ⊢
  simp only [Bool.and_eq_true, decide_eq_true_eq] at h ⊢
  omega

/-- by a tag alone -/
theorem kp_tag {S : List SnapR} {D : List Int} {tag : Bs} {k : Nat} (hk : k < S.length) (ht : tag ≠ []) : kpB S D ⟨0, 0, 0, 0, tag⟩ k = (S[k]!.tag == tag) := by
  unfold kpB
  have h1 : decide ((S.length : Int) - k ≤ max 0 0) = false := decide_eq_false (by omega)
  have h2 : (tag == ([] : Bs)) = false := by simpa using ht
  rw [h1, above_zero, h2]
  simp
/-- by nearness alone -/
theorem kp_near {S : List SnapR} {D : List Int} {w : Int} {k : Nat} (hk : k < S.length) : kpB S D ⟨0, 0, 0, w, []⟩ k = aboveV S[k]!.time S[S.length - 1]!.time w := by
  unfold kpB
  have h1 : decide ((S.length : Int) - k ≤ max 0 0) = false := decide_eq_false (by omega)
  rw [h1]
  simp
theorem kp_both {S : List SnapR} {D : List Int} {w : Int} {tag : Bs} {k : Nat} (hk : k < S.length) (ht : tag ≠ []) : kpB S D ⟨0, 0, 0, w, tag⟩ k = (S[k]!.tag == tag || aboveV S[k]!.time S[S.length - 1]!.time w) := by
  unfold kpB
  have h1 : decide ((S.length : Int) - k ≤ max 0 0) = false := decide_eq_false (by omega)
  have h2 : (tag == ([] : Bs)) = false := by simpa using ht
  rw [h1, h2]
  simp [Bool.or_comm]
/-- by the last alone -/
theorem kp_last {S : List SnapR} {D : List Int} {n : Int} {k : Nat} (hn : 0 ≤ n) : kpB S D ⟨n, 0, 0, 0, []⟩ k = decide ((S.length : Int) - k ≤ n) := by
  unfold kpB
  rw [above_zero, show max n 0 = n by omega]
  simp
/-- by days alone -/
theorem kp_days {S : List SnapR} {D : List Int} {n day : Int} {k : Nat} (hk : k < S.length) : kpB S D ⟨0, n, day, 0, []⟩ k = ((D.take n.toNat).contains (S[k]!.time / day) && lastOf S day k) := by
  unfold kpB
  have h1 : decide ((S.length : Int) - k ≤ max 0 0) = false := decide_eq_false (by omega)
  rw [h1, above_zero]
  simp
theorem days_zero {L : List SnapR} {D : List Int} {day : Int} (hd : ¬ 1 ≤ day) (h : DaysOf L day D) : D = [] := h.eq (days_none L hd)

theorem count_from (a : Nat) : ∀ N, (List.range N).countP (fun k => decide (a ≤ k)) = N - a
  | 0 => by simp
  | N + 1 => by
    rw [List.range_succ, List.countP_append, count_from a N]
    simp only [List.countP_cons, List.countP_nil]
    by_cases h : a ≤ N
    · simp [h]; omega
    · simp [h]; omega
theorem kept_count {L : List SnapR} {P : List Nat} {p : PolR} {D : List Int} (hP : Places L P) : (keepB L P p D).countP id = (kpRow (rowOf L P) D p).countP id := by
  have h := ((kept_perm (p := p) (D := D) hP).map (·.2)).countP_eq id
  have e1 : (L.zip (keepB L P p D)).map (·.2) = keepB L P p D := List.map_snd_zip (by rw [keepB_len]; exact Nat.le_refl _)
  have e2 : ((rowOf L P).zip (kpRow (rowOf L P) D p)).map (·.2) = kpRow (rowOf L P) D p := List.map_snd_zip (by simp [kpRow])
  rw [e1, e2] at h
  exact h
theorem last_count {L : List SnapR} {P : List Nat} {D : List Int} {n : Nat} (hP : Places L P) : (keepB L P ⟨n, 0, 0, 0, []⟩ D).countP id = min n L.length := by
  rw [kept_count hP]
  unfold kpRow
  rw [List.countP_map]
  have e : (id ∘ kpB (rowOf L P) D ⟨n, 0, 0, 0, []⟩) = fun k => decide (L.length - n ≤ k) := by
    funext k
    show kpB (rowOf L P) D ⟨n, 0, 0, 0, []⟩ k = _
    rw [kp_last (by omega), rowOf_len hP]
    apply decide_eq_decide.2
    omega
  rw [e, count_from, rowOf_len hP]
  omega
theorem last_of_all {Q : Nat → Prop} : ∀ N, (∃ k, k < N ∧ Q k) → ∃ k, k < N ∧ Q k ∧ ∀ j, k < j → j < N → ¬ Q j
  | 0, h => by obtain ⟨k, hk, _⟩ := h; omega
  | N + 1, h => by
    by_cases hN : Q N
    · exact ⟨N, by omega, hN, fun j h1 h2 => by omega⟩
    · obtain ⟨k, hk, hq⟩ := h
      have : k ≠ N := fun e => hN (e ▸ hq)
      obtain ⟨k', h1, h2, h3⟩ := last_of_all N ⟨k, by omega, hq⟩
      refine ⟨k', by omega, h2, fun j g1 g2 => ?_⟩
      by_cases e : j = N
      · rw [e]; exact hN
      · exact h3 j g1 (by omega)
theorem lastOf_iff {S : List SnapR} {day : Int} {k : Nat} : lastOf S day k = true ↔ ∀ j, k < j → j < S.length → S[j]!.time / day ≠ S[k]!.time / day := by
  unfold lastOf
  rw [List.all_eq_true]
  constructor
  · intro h j h1 h2
    have := h j (by simpa using h2)
    simpa [h1] using this
  · intro h j hj
    by_cases e : k < j
    · have := h j e (by simpa using hj)
      have hb : (S[j]!.time / day == S[k]!.time / day) = false := by rw [beq_eq_false_iff_ne]; exact this
      rw [hb]; simp
    · simp [e]
theorem days_count {L : List SnapR} {P : List Nat} {D : List Int} {n : Nat} {day : Int} (hP : Places L P) (hD : DaysOf L day D) : (keepB L P ⟨0, n, day, 0, []⟩ D).countP id = min n D.length := by
  rw [kept_count hP]
  unfold kpRow
  rw [List.countP_map]
  obtain ⟨S, hS⟩ : ∃ S, S = rowOf L P := ⟨_, rfl⟩
  have hz : S.length = L.length := by rw [hS]; exact rowOf_len hP
  rw [← hS]
  have e : (List.range S.length).countP (id ∘ kpB S D ⟨0, n, day, 0, []⟩) = ((List.range S.length).filter (fun k => (D.take n).contains (S[k]!.time / day) && lastOf S day k)).length := by
    rw [List.countP_eq_length_filter]
    congr 1
    apply List.filter_congr
    intro k hk
    show kpB S D ⟨0, n, day, 0, []⟩ k = _
    rw [kp_days (by simpa using hk)]
    rfl
  rw [e]
  have hpw : ((List.range S.length).filter (fun k => (D.take n).contains (S[k]!.time / day) && lastOf S day k)).Pairwise (· < ·) := List.pairwise_lt_range.sublist List.filter_sublist
  have hmem : ∀ k, k ∈ (List.range S.length).filter (fun k => (D.take n).contains (S[k]!.time / day) && lastOf S day k) ↔ k < S.length ∧ S[k]!.time / day ∈ D.take n ∧ lastOf S day k = true := fun k => by
    simp [List.mem_filter]
  generalize (List.range S.length).filter (fun k => (D.take n).contains (S[k]!.time / day) && lastOf S day k) = ix at hpw hmem ⊢
  have hperm : (ix.map (fun k => S[k]!.time / day)).Perm (D.take n) := by
    refine (List.perm_ext_iff_of_nodup ?_ ?_).2 fun d => ?_
    · unfold List.Nodup
      rw [List.pairwise_map]
      refine List.Pairwise.imp_of_mem ?_ hpw
      intro a b ha hb hab
      have h1 := ((hmem a).1 ha).2.2
      have h2 := ((hmem b).1 hb).1
      exact fun e => lastOf_iff.1 h1 b hab h2 e.symm
    · exact (hD.falls.imp (fun h e => by omega)).sublist (List.take_sublist _ _)
    · constructor
      · intro h
        obtain ⟨k, hk, rfl⟩ := List.mem_map.1 h
        exact ((hmem k).1 hk).2.1
      · intro h
        obtain ⟨_, s, hs, hd⟩ := (hD.mem d).1 (List.mem_of_mem_take h)
        have hs2 : s ∈ S := by rw [hS]; exact hP.perm_row.mem_iff.2 hs
        obtain ⟨k0, hk0, e0⟩ := List.getElem_of_mem hs2
        obtain ⟨k, h1, h2, h3⟩ := last_of_all (Q := fun k => S[k]!.time / day = d) S.length ⟨k0, hk0, by rw [getElem!_pos S k0 hk0, e0]; exact hd⟩
        refine List.mem_map.2 ⟨k, (hmem k).2 ⟨h1, by rw [h2]; exact h, lastOf_iff.2 fun j g1 g2 => ?_⟩, h2⟩
        rw [h2]; exact h3 j g1 g2
  have := hperm.length_eq
  simp only [List.length_map, List.length_take] at this
  rw [this]

/-- with more asked for nothing goes that was kept -/
theorem kp_more {S : List SnapR} {D : List Int} {p : PolR} {last days : Int} (hl : p.last ≤ last) (hd : p.days ≤ days) {k : Nat} (h : kpB S D p k = true) : kpB S D ⟨last, days, p.day, p.within, p.tag⟩ k = true := by
  unfold kpB at h ⊢
  simp only [Bool.or_eq_true, Bool.and_eq_true, decide_eq_true_eq, List.contains_iff_mem] at h ⊢
  rcases h with ((h | h) | h) | ⟨h1, h2⟩
  · exact .inl (.inl (.inl (by omega)))
  · exact .inl (.inl (.inr h))
  · exact .inl (.inr h)
  · exact .inr ⟨(List.take_subset_take_left D (show p.days.toNat ≤ days.toNat by omega)) h1, h2⟩
theorem keep_more {L : List SnapR} {P : List Nat} {D : List Int} {p : PolR} {last days : Int} (hP : Places L P) (hl : p.last ≤ last) (hd : p.days ≤ days) {i : Nat} (hi : i < L.length) (h : (keepB L P p D)[i]? = some true) :
    (keepB L P ⟨last, days, p.day, p.within, p.tag⟩ D)[i]? = some true := by
  obtain ⟨k, hk, e1, _, h1⟩ := kept_of (p := p) (D := D) hP hi
  have h2 := keepB_at (p := ⟨last, days, p.day, p.within, p.tag⟩) (D := D) hP (k := k) (by rw [hP.len]; exact hk)
  rw [h] at h1
  rw [← e1, h2, kp_more hl hd (by simpa using h1.symm)]

theorem falls_sub : ∀ {a b : List Int}, Falls a → Falls b → (∀ x ∈ a, x ∈ b) → a.Sublist b
  | [], b, _, _, _ => List.nil_sublist b
  | x :: r, [], _, _, h => by have := h x (List.mem_cons_self ..); cases this
  | x :: r, y :: s, ha, hb, h => by
    obtain ⟨a1, a2⟩ := List.pairwise_cons.1 ha
    obtain ⟨b1, b2⟩ := List.pairwise_cons.1 hb
    by_cases e : x = y
    · subst e
      refine List.Sublist.cons_cons x (falls_sub a2 b2 fun z hz => ?_)
      rcases List.mem_cons.1 (h z (List.mem_cons_of_mem _ hz)) with e | h'
      · have := a1 z hz; omega
      · exact h'
    · refine List.Sublist.cons y (falls_sub ha b2 fun z hz => ?_)
      rcases List.mem_cons.1 (h z hz) with e2 | h'
      · subst e2
        exfalso
        rcases List.mem_cons.1 (h x (List.mem_cons_self ..)) with e3 | h3
        · exact e e3
        · have := b1 x h3
          rcases List.mem_cons.1 hz with e4 | h4
          · omega
          · have := a1 z h4; omega
      · exact h'
theorem take_falls : ∀ {D : List Int} {x : Int} {c : Nat}, Falls D → x ∈ D → (x ∈ D.take c ↔ (D.filter (fun y => decide (x < y))).length < c)
  | y :: r, x, 0, _, _ => by simp
  | y :: r, x, c + 1, h, hx => by
    obtain ⟨h1, h2⟩ := List.pairwise_cons.1 h
    rw [List.take_succ_cons, List.mem_cons]
    rcases List.mem_cons.1 hx with e | hx
    · subst e
      have : (r.filter (fun y => decide (x < y))) = [] := by
        rw [List.filter_eq_nil_iff]
        intro z hz
        have := h1 z hz
        simp; omega
      simp [this]
    · have hlt := h1 x hx
      rw [List.filter_cons, if_pos (by simpa using hlt), List.length_cons]
      have ih := take_falls (c := c) h2 hx
      constructor
      · rintro (e | h')
        · omega
        · have := ih.1 h'; omega
      · intro h'
        exact .inr (ih.2 (by omega))
theorem take_less {D D' : List Int} {x : Int} {c : Nat} (h : Falls D) (h' : Falls D') (hs : ∀ y ∈ D', y ∈ D) (hx : x ∈ D') (ht : x ∈ D.take c) : x ∈ D'.take c := by
  rw [take_falls h (hs x hx)] at ht
  rw [take_falls h' hx]
  have := ((falls_sub h' h hs).filter (fun y => decide (x < y))).length_le
  omega

/-- what is kept of a list -/
def leftL (L : List SnapR) (B : List Bool) : List SnapR := ((L.zip B).filter (·.2)).map (·.1)
theorem leftL_len (L : List SnapR) (B : List Bool) (h : B.length = L.length) : (leftL L B).length = B.countP id := by
  unfold leftL
  rw [List.length_map, ← List.countP_eq_length_filter]
  have e : B = (L.zip B).map (·.2) := (List.map_snd_zip (by omega)).symm
  conv => rhs; rw [e]
  rw [List.countP_map]; rfl
theorem ix_le {ix : List Nat} {n : Nat} (h : ix.Pairwise (· < ·)) (hn : ∀ i ∈ ix, i < n) : ∀ t k, ix.length - k = t → (hk : k < ix.length) → ix.length - k ≤ n - ix[k]
  | 0, k, e, hk => by omega
  | t + 1, k, e, hk => by
    have hn' := hn _ (List.getElem_mem hk)
    by_cases hl : k + 1 < ix.length
    · have ih := ix_le h hn t (k + 1) (by omega) hl
      have := List.pairwise_iff_getElem.1 h k (k + 1) hk hl (by omega)
      have := hn _ (List.getElem_mem hl)
      omega
    · omega
theorem left_all {L : List SnapR} {P : List Nat} {D : List Int} {p : PolR} (hP : Places L P) (hD : DaysOf L p.day D) {P' : List Nat} {D' : List Int} (hP' : Places (leftL L (keepB L P p D)) P') (hD' : DaysOf (leftL L (keepB L P p D)) p.day D') :
    ∀ i, i < (leftL L (keepB L P p D)).length → (keepB (leftL L (keepB L P p D)) P' p D')[i]? = some true := by
  obtain ⟨S, hS⟩ : ∃ S, S = rowOf L P := ⟨_, rfl⟩
  have hzS : S.length = L.length := by rw [hS]; exact rowOf_len hP
  have hrS : Rises S := by rw [hS]; exact hP.rises
  obtain ⟨ix, hix⟩ : ∃ ix, ix = (List.range S.length).filter (kpB S D p) := ⟨_, rfl⟩
  have hpw : ix.Pairwise (· < ·) := by rw [hix]; exact List.pairwise_lt_range.sublist List.filter_sublist
  have hixm : ∀ k, k ∈ ix ↔ k < S.length ∧ kpB S D p k = true := fun k => by rw [hix]; simp [List.mem_filter]
  have hzip : S.zip (kpRow S D p) = (List.range S.length).map (fun k => (S[k]!, kpB S D p k)) := by
    apply List.ext_getElem
    · simp [kpRow]
    · intro i h1 h2
      simp only [List.length_map, List.length_range] at h2
      simp only [List.getElem_zip, List.getElem_map, kpRow, List.getElem_range]
      rw [getElem!_pos S i h2]
  have hT : (leftL L (keepB L P p D)).Perm (ix.map (fun k => S[k]!)) := by
    unfold leftL
    have h1 := (((kept_perm (p := p) (D := D) hP).filter (·.2)).map (·.1))
    rw [← hS, hzip] at h1
    have e : (((List.range S.length).map (fun k => (S[k]!, kpB S D p k))).filter (·.2)).map (·.1) = ix.map (fun k => S[k]!) := by
      rw [List.filter_map, List.map_map, hix]; rfl
    rw [e] at h1
    exact h1
  generalize leftL L (keepB L P p D) = T at hT hP' hD' ⊢
  have hrT : Rises (ix.map (fun k => S[k]!)) := by
    unfold Rises
    rw [List.pairwise_map]
    refine List.Pairwise.imp_of_mem ?_ hpw
    intro a b ha hb hab
    have h1 := ((hixm a).1 ha).1
    have h2 := ((hixm b).1 hb).1
    rw [getElem!_pos S a h1, getElem!_pos S b h2]
    exact List.pairwise_iff_getElem.1 hrS a b h1 h2 hab
  have hrow : rowOf T P' = ix.map (fun k => S[k]!) := hP'.rises.eq hrT (hP'.perm_row.trans hT)
  have hzT : T.length = ix.length := by have := hT.length_eq; simpa using this
  intro i hi
  obtain ⟨k, hk, _, _, e⟩ := kept_of (p := p) (D := D') hP' hi
  rw [e, hrow]
  congr 1
  rw [hzT] at hk
  have hkS := (hixm _).1 (List.getElem_mem hk)
  have hat : ∀ j, (hj : j < ix.length) → (ix.map (fun k => S[k]!))[j]! = S[ix[j]]! := fun j hj => by
    rw [getElem!_pos _ j (by simpa using hj), List.getElem_map]
  have hle := ix_le hpw (fun i hi => ((hixm i).1 hi).1) _ k rfl hk
  have h := hkS.2
  unfold kpB at h ⊢
  simp only [Bool.or_eq_true, Bool.and_eq_true, decide_eq_true_eq, List.contains_iff_mem] at h ⊢
  rw [List.length_map, hat k hk]
  rcases h with ((h | h) | h) | ⟨h1, h2⟩
  · exact .inl (.inl (.inl (by have := hkS.1; omega)))
  · refine .inl (.inl (.inr (above_mono h ?_)))
    rw [hat (ix.length - 1) (by omega)]
    have := (hixm _).1 (List.getElem_mem (l := ix) (n := ix.length - 1) (by omega))
    exact hrS.time (by omega) (by omega)
  · exact .inl (.inr h)
  · refine .inr ⟨?_, ?_⟩
    · have hday : 1 ≤ p.day := ((hD.mem _).1 (List.mem_of_mem_take h1)).1
      have hin : S[ix[k]]!.time / p.day ∈ D' := (hD'.mem _).2 ⟨hday, S[ix[k]]!, hT.mem_iff.2 (List.mem_map.2 ⟨ix[k], List.getElem_mem hk, rfl⟩), rfl⟩
      refine take_less hD.falls hD'.falls (fun y hy => ?_) hin h1
      obtain ⟨_, s, hs, e⟩ := (hD'.mem y).1 hy
      obtain ⟨q, hq, rfl⟩ := List.mem_map.1 (hT.mem_iff.1 hs)
      have hq2 := ((hixm q).1 hq).1
      refine (hD.mem y).2 ⟨hday, S[q]!, ?_, e⟩
      have : S[q]! ∈ S := by rw [getElem!_pos S q hq2]; exact List.getElem_mem _
      rw [hS] at this ⊢
      exact hP.perm_row.mem_iff.1 this
    · rw [lastOf_iff] at h2 ⊢
      intro j g1 g2
      rw [List.length_map] at g2
      rw [hat j g2, hat k hk]
      exact h2 _ (List.pairwise_iff_getElem.1 hpw k j hk g2 g1) ((hixm _).1 (List.getElem_mem g2)).1
/-- in whichever order a list stands as many are kept -/
theorem turned_count {L L' : List SnapR} {P P' : List Nat} {D D' : List Int} {p : PolR} (h : L.Perm L') (hP : Places L P) (hP' : Places L' P') (hD : DaysOf L p.day D) (hD' : DaysOf L' p.day D') : (keepB L' P' p D').countP id = (keepB L P p D).countP id := by
  rw [kept_count hP, kept_count hP', rows_eq h hP hP', days_perm h hD hD']
/-- the places of those that aren't kept -/
def goneL (B : List Bool) : List Nat := (List.range B.length).filter (fun i => !B[i]!)
theorem goneL_len (B : List Bool) : (goneL B).length = B.length - B.countP id := by
  unfold goneL
  rw [← List.countP_eq_length_filter]
  have e : B = (List.range B.length).map (fun i => B[i]!) := (map_range_self B).symm
  have h1 : (List.range B.length).countP (fun i => !B[i]!) = B.countP (fun b => !b) := by
    conv => rhs; rw [e]
    rw [List.countP_map]; rfl
  rw [h1]
  have := List.length_eq_countP_add_countP (p := id) (l := B)
  have e2 : B.countP (fun a => decide (¬ id a = true)) = B.countP (fun b => !b) := by
    congr 1; funext b; cases b <;> rfl
  rw [e2] at this
  omega
end Go.Proofs.Ytgnigkghkldcfaa

/-! Plain laws: what is kept, as the document has it: by how many stand behind. No program in sight. -/
namespace Go.Proofs.Ytgnigkghkldcfaa
open Go.RowKit Go.Proofs Go.Lib Go.Sort

/-- does the one at i stand behind the one at k? -/
def behindR (L : List SnapR) (i k : Nat) : Bool := decide (cmpS L[k]! L[i]! < 0) || (decide (k < i) && !decide (cmpS L[i]! L[k]! < 0))
/-- how many stand behind the one at i -/
def afterR (L : List SnapR) (i : Nat) : Nat := (List.range L.length).countP (fun k => decide (k ≠ i) && behindR L k i)
/-- is the one at i the last one of its day? -/
def latestR (L : List SnapR) (day : Int) (i : Nat) : Bool := (List.range L.length).all (fun k => !(decide (k ≠ i) && (L[k]!.time / day == L[i]!.time / day) && behindR L k i))
def wantB (L : List SnapR) (D : List Int) (p : PolR) (top : Int) (i : Nat) : Bool :=
  decide ((afterR L i : Int) < p.last) || (decide (1 ≤ p.day) && latestR L p.day i && (D.take p.days.toNat).contains (L[i]!.time / p.day)) || (aboveV L[i]!.time top p.within || (!(p.tag == ([] : Bs)) && (L[i]!.tag == p.tag)))

theorem behindR_iff {L : List SnapR} {i k : Nat} (h : k ≠ i) : behindR L k i = true ↔ leP L i k := by
  unfold behindR leP
  have := wo_cmpS.anti L[i]! L[k]!
  simp only [Bool.or_eq_true, Bool.and_eq_true, decide_eq_true_eq, Bool.not_eq_true', decide_eq_false_iff_not]
  omega
theorem behind_at {L : List SnapR} {P : List Nat} (hP : Places L P) {j k : Nat} (hj : j < P.length) (hk : k < P.length) : (decide (P[j]! ≠ P[k]!) && behindR L P[j]! P[k]!) = decide (k + 1 ≤ j) := by
  rw [getElem!_pos P j hj, getElem!_pos P k hk]
  by_cases e : j = k
  · subst e
    simp
  · have hne : P[j] ≠ P[k] := fun h => e (nodup_at hP.nodup h)
    rw [decide_eq_true hne, Bool.true_and, Bool.eq_iff_iff, behindR_iff hne, decide_eq_true_eq]
    constructor
    · intro h
      rcases Nat.lt_or_gt_of_ne e with h1 | h1
      · exfalso
        exact hne (leP.anti (List.pairwise_iff_getElem.1 hP.srt j k hj hk h1) h)
      · omega
    · intro h
      exact List.pairwise_iff_getElem.1 hP.srt k j hk hj (by omega)
theorem afterR_at {L : List SnapR} {P : List Nat} (hP : Places L P) {k : Nat} (hk : k < P.length) : afterR L P[k]! = P.length - (k + 1) := by
  unfold afterR
  rw [← hP.perm.countP_eq]
  have e : P.countP (fun x => decide (x ≠ P[k]!) && behindR L x P[k]!) = (List.range P.length).countP (fun j => decide (k + 1 ≤ j)) := by
    conv => lhs; rw [← map_range_self P]
    rw [List.countP_map]
    apply List.countP_congr
    intro j hj
    have := behind_at hP (j := j) (k := k) (by simpa using hj) hk
    simp only [map_range_self, Function.comp_apply]
    rw [this]
  rw [e, count_from]
theorem latestR_at {L : List SnapR} {P : List Nat} (hP : Places L P) {day : Int} {k : Nat} (hk : k < P.length) : latestR L day P[k]! = lastOf (rowOf L P) day k := by
  have hz : (rowOf L P).length = P.length := by simp [rowOf]
  rw [Bool.eq_iff_iff]
  unfold latestR lastOf
  rw [List.all_eq_true, List.all_eq_true]
  constructor
  · intro h j hj
    rw [List.mem_range, hz] at hj
    have h1 := h P[j]! (by rw [List.mem_range]; exact hP.lt (by rw [getElem!_pos P j hj]; exact List.getElem_mem _))
    have h2 := behind_at hP hj hk
    rw [rowOf_at L P hj, rowOf_at L P hk]
    by_cases e : k < j
    · have h3 : (decide (P[j]! ≠ P[k]!) && behindR L P[j]! P[k]!) = true := by rw [h2]; simp; omega
      simp only [Bool.and_eq_true] at h3
      rw [h3.1, h3.2, Bool.and_true, Bool.true_and] at h1
      rw [h1]; simp
    · simp [e]
  · intro h x hx
    rw [List.mem_range] at hx
    obtain ⟨j, hj, e⟩ := List.getElem_of_mem (hP.mem hx)
    have hx2 : P[j]! = x := by rw [getElem!_pos P j hj, e]
    have h1 := h j (by rw [List.mem_range, hz]; exact hj)
    have h2 := behind_at hP hj hk
    rw [rowOf_at L P hj, rowOf_at L P hk] at h1
    rw [← hx2]
    by_cases e : k < j
    · simp only [e, decide_true, Bool.not_true, Bool.false_or] at h1
      rw [Bool.not_eq_true'] at h1
      rw [h1]; simp
    · rw [Bool.and_right_comm, h2]
      have : decide (k + 1 ≤ j) = false := decide_eq_false (by omega)
      rw [this]; simp
theorem want_at {L : List SnapR} {P : List Nat} {p : PolR} {D : List Int} (hP : Places L P) (hD : DaysOf L p.day D) {k : Nat} (hk : k < P.length) : kpB (rowOf L P) D p k = wantB L D p (rowOf L P)[L.length - 1]!.time P[k]! := by
  unfold kpB wantB
  have hz : (rowOf L P).length = L.length := rowOf_len hP
  rw [hz, rowOf_at L P hk, afterR_at hP hk, latestR_at hP hk, hP.len]
  have hk' : k < L.length := by rw [← hP.len]; exact hk
  have e1 : decide ((L.length : Int) - k ≤ max p.last 0) = decide (((L.length - (k + 1) : Nat) : Int) < p.last) := by apply decide_eq_decide.2; omega
  rw [e1]
  by_cases hd : 1 ≤ p.day
  · simp only [hd, decide_true, Bool.true_and]
    cases decide (((L.length - (k + 1) : Nat) : Int) < p.last) <;> cases aboveV L[P[k]!]!.time (rowOf L P)[L.length - 1]!.time p.within <;> cases (!(p.tag == ([] : Bs)) && (L[P[k]!]!.tag == p.tag)) <;> simp [Bool.and_comm]
  · rw [days_zero hd hD]
    simp [hd, Bool.or_assoc]
/-- what Keep says at a place is what the document says -/
theorem keep_want {L : List SnapR} {P : List Nat} {p : PolR} {D : List Int} (hP : Places L P) (hD : DaysOf L p.day D) {i : Nat} (hi : i < L.length) : (keepB L P p D)[i]? = some (wantB L D p (rowOf L P)[L.length - 1]!.time i) := by
  obtain ⟨k, hk, e1, _, e⟩ := kept_of (p := p) (D := D) hP hi
  rw [e, want_at hP hD (by rw [hP.len]; exact hk), e1]
/-- the greatest time is that of the last one -/
theorem top_is {L : List SnapR} {P : List Nat} (hP : Places L P) (h0 : 0 < L.length) : (∀ s ∈ L, s.time ≤ (rowOf L P)[L.length - 1]!.time) ∧ (rowOf L P)[L.length - 1]! ∈ L := by
  have hz : (rowOf L P).length = L.length := rowOf_len hP
  refine ⟨fun s hs => ?_, ?_⟩
  · obtain ⟨k, hk, e⟩ := List.getElem_of_mem (hP.perm_row.mem_iff.2 hs)
    have := hP.rises.time (i := k) (j := L.length - 1) (by omega) (by omega)
    rw [getElem!_pos (rowOf L P) k hk, e] at this
    exact this
  · refine hP.perm_row.mem_iff.1 ?_
    rw [getElem!_pos (rowOf L P) (L.length - 1) (by omega)]
    exact List.getElem_mem _
theorem top_eq {L : List SnapR} {P : List Nat} (hP : Places L P) {t : Int} (h1 : ∀ s ∈ L, s.time ≤ t) (h2 : ∃ s ∈ L, s.time = t) : (rowOf L P)[L.length - 1]!.time = t := by
  obtain ⟨s, hs, rfl⟩ := h2
  obtain ⟨g1, g2⟩ := top_is hP (List.length_pos_of_mem hs)
  have := g1 s hs
  have := h1 _ g2
  omega
/-- the last one of all is kept by each kind that keeps any -/
theorem kp_top {S : List SnapR} {D : List Int} {day : Int} (h0 : 0 < S.length) (hr : Rises S) (hd : 1 ≤ day) (hD : DaysOf S day D) : kpB S D ⟨0, 1, day, 0, []⟩ (S.length - 1) = true := by
  rw [kp_days (by omega), Bool.and_eq_true, List.contains_iff_mem]
  have hm : S[S.length - 1]! ∈ S := by rw [getElem!_pos S _ (by omega)]; exact List.getElem_mem _
  refine ⟨?_, lastOf_iff.2 fun j h1 h2 => by omega⟩
  rw [take_falls hD.falls ((hD.mem _).2 ⟨hd, _, hm, rfl⟩)]
  have : D.filter (fun y => decide (S[S.length - 1]!.time / day < y)) = [] := by
    rw [List.filter_eq_nil_iff]
    intro y hy
    obtain ⟨_, s, hs, rfl⟩ := (hD.mem y).1 hy
    obtain ⟨k, hk, e⟩ := List.getElem_of_mem hs
    have h1 := hr.time (i := k) (j := S.length - 1) (by omega) (by omega)
    rw [getElem!_pos S k hk, e] at h1
    have h2 := Int.ediv_le_ediv (show 0 < day by omega) h1
    rw [decide_eq_true_eq]; omega
  rw [this]; decide
theorem kp_top1 {S : List SnapR} {D : List Int} (h0 : 0 < S.length) : kpB S D ⟨1, 0, 0, 0, []⟩ (S.length - 1) = true := by
  rw [kp_last (by decide)]; simp; omega
theorem kp_topw {S : List SnapR} {D : List Int} (h0 : 0 < S.length) : kpB S D ⟨0, 0, 0, 1, []⟩ (S.length - 1) = true := by
  rw [kp_near (by omega)]; simp [aboveV]
theorem kp_nothing {S : List SnapR} {D : List Int} {k : Nat} (hk : k < S.length) : kpB S D ⟨0, 0, 0, 0, []⟩ k = false := by
  rw [kp_near hk, above_zero]
end Go.Proofs.Ytgnigkghkldcfaa

/-! Plain laws: the places of a list are one; the document's example of layer 19. No program in sight. -/
namespace Go.Proofs.Ytgnigkghkldcfaa
open Go.RowKit Go.Proofs Go.Lib Go.Sort

theorem Places.eq {L : List SnapR} {P P' : List Nat} (h : Places L P) (h' : Places L P') : P = P' :=
  (h.perm.trans h'.perm.symm).eq_of_pairwise (fun _ _ _ _ h1 h2 => leP.anti h1 h2) h.srt h'.srt

def snapT (t : Int) (tag : Bs) : SnapR := ⟨t, [], tag, List.replicate 32 0, 0, 0⟩
/-- the example's list -/
def aliveL : List SnapR := [snapT 5 [], snapT 25 [], snapT 12 [120], snapT 21 []]
theorem aliveP : Places aliveL [0, 2, 3, 1] := ⟨by decide, by decide⟩
theorem aliveD : DaysOf aliveL 10 [2, 1, 0] := by
  refine ⟨by unfold Falls; decide, fun x => ?_⟩
  simp [aliveL, snapT]
  constructor
  · rintro (rfl | rfl | rfl) <;> simp
  · rintro (rfl | rfl | rfl | rfl) <;> simp
theorem alive_a {D : List Int} : keepB aliveL [0, 2, 3, 1] ⟨1, 0, 0, 0, []⟩ D = [false, true, false, false] := by
  unfold keepB
  show byB _ _ _ _ (D.take 0) = _
  rw [List.take_zero]
  decide
theorem alive_b : keepB aliveL [0, 2, 3, 1] ⟨0, 2, 10, 0, []⟩ [2, 1, 0] = [false, true, true, false] := by decide
theorem alive_c {D : List Int} : keepB aliveL [0, 2, 3, 1] ⟨0, 0, 0, 5, [120]⟩ D = [false, true, true, true] := by
  unfold keepB
  show byB _ _ _ _ (D.take 0) = _
  rw [List.take_zero]
  decide
theorem alive_g {D : List Int} : goneL (keepB aliveL [0, 2, 3, 1] ⟨1, 0, 0, 0, []⟩ D) = [0, 2, 3] := by rw [alive_a]; decide
end Go.Proofs.Ytgnigkghkldcfaa
