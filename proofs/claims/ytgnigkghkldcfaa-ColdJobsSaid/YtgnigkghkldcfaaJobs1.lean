/-
  coldstorelaw07.ColdJobs: what holds of the store, without the program.
-/
import Derived.Test.YtgnigkghkldcfaaAgain1
namespace Go.Proofs.Ytgnigkghkldcfaa
open Go.RowKit Go.Proofs Go.Lib

/-- the same names, in the same order -/
def SameK {α β : Type} (n : List (Bs × α)) (r : List (Bs × β)) : Prop := mapV (fun _ => ()) n = mapV (fun _ => ()) r
theorem SameK.lk {α β : Type} {n : List (Bs × α)} {r : List (Bs × β)} (h : SameK n r) (k : Bs) : (lk n k).isSome = (Ytgnigkghkldcfaa.lk r k).isSome := by
  have h1 := lk_mapV (fun _ => ()) n k
  rw [show mapV (fun _ => ()) n = mapV (fun _ => ()) r from h, lk_mapV] at h1
  have := congrArg Option.isSome h1
  simpa using this.symm
theorem SameK.none {α β : Type} {n : List (Bs × α)} {r : List (Bs × β)} (h : SameK n r) {k : Bs} (hk : Ytgnigkghkldcfaa.lk r k = none) : Ytgnigkghkldcfaa.lk n k = none := by
  have := h.lk k
  rw [hk] at this
  simpa using this
theorem SameK.some {α β : Type} {n : List (Bs × α)} {r : List (Bs × β)} (h : SameK n r) {k : Bs} {v : β} (hk : Ytgnigkghkldcfaa.lk r k = some v) : ∃ u, Ytgnigkghkldcfaa.lk n k = some u := by
  have := h.lk k
  rw [hk] at this
  exact Option.isSome_iff_exists.1 this
theorem SameK.len {α β : Type} {n : List (Bs × α)} {r : List (Bs × β)} (h : SameK n r) : n.length = r.length := by
  have := congrArg List.length (show mapV (fun _ => ()) n = mapV (fun _ => ()) r from h)
  rwa [length_mapV, length_mapV] at this
theorem SameK.put {α β : Type} {n : List (Bs × α)} {r : List (Bs × β)} (h : SameK n r) (k : Bs) (a : α) (b : β) : SameK (putK k a n) (putK k b r) := by
  unfold SameK
  rw [← putK_mapV, ← putK_mapV, show mapV (fun _ => ()) n = mapV (fun _ => ()) r from h]
theorem SameK.del {α β : Type} {n : List (Bs × α)} {r : List (Bs × β)} (h : SameK n r) (k : Bs) : SameK (delK k n) (delK k r) := by
  unfold SameK
  rw [← delK_mapV, ← delK_mapV, show mapV (fun _ => ()) n = mapV (fun _ => ()) r from h]

theorem putK_there {α : Type} {k : Bs} {v : α} : ∀ {m : List (Bs × α)}, Rising m → lk m k = some v → putK k v m = m
  | [], _, h => by simp [lk] at h
  | e :: r, hr, h => by
    have hx : ∀ y ∈ r, y.1 ≠ e.1 := fun y hy => (before_ne ((List.pairwise_cons.1 hr).1 y hy)).symm
    rw [lk_cons] at h
    unfold putK
    by_cases hk : (e.1 == k) = true
    · rw [if_pos hk] at h
      simp only [beq_iff_eq] at hk
      obtain ⟨ek, ev⟩ := e
      dsimp only at hk h hx
      subst hk; cases h
      have hd : delK ek ((ek, v) :: r) = r := by
        unfold delK
        rw [List.filter_cons_of_neg (by simp)]
        exact delK_above hx
      rw [hd]
      cases r with
      | nil => rfl
      | cons y r =>
        unfold insK
        rw [if_pos ((List.pairwise_cons.1 hr).1 y (List.mem_cons_self ..))]
    · rw [if_neg hk] at h
      have hd : delK k (e :: r) = e :: delK k r := by
        unfold delK
        rw [List.filter_cons_of_pos (by simpa using hk)]
      rw [hd]
      have hb : bytesBefore e.1 k = true := (List.pairwise_cons.1 hr).1 _ (lk_mem h)
      unfold insK
      rw [if_neg (by rw [before_asymm hb]; decide)]
      have := putK_there (List.pairwise_cons.1 hr).2 h
      unfold putK at this
      rw [this]
theorem SameK.put_left {α β : Type} {n : List (Bs × α)} {r : List (Bs × β)} (h : SameK n r) (hr : Rising n) {k : Bs} {u : α} (hk : Ytgnigkghkldcfaa.lk n k = Option.some u) (a : α) : SameK (putK k a n) r := by
  unfold SameK
  rw [← putK_mapV]
  rw [putK_there (rising_mapV _ hr) (by rw [lk_mapV, hk]; rfl)]
  exact h

theorem stateT_pend (life done now : Int) : stateT life done now = 1 ↔ done ≠ -1 ∧ now < done := by
  unfold stateT
  by_cases h1 : done = -1
  · rw [if_pos (.inl h1)]; simp [h1]
  · by_cases h2 : now < done
    · rw [if_neg (by omega), if_pos h2]; simp [h1, h2]
    · by_cases h3 : done ≤ now ∧ afterT done life ≤ now
      · rw [if_pos (.inr h3)]; simp [h2]
      · rw [if_neg (by omega), if_neg h2]; simp [h2]
theorem pendB_iff (life now : Int) (n : Int × Int) : pendB life now n = decide (n.2 ≠ -1 ∧ heldT now < n.2) := by
  unfold pendB
  rw [decide_eq_decide]
  exact stateT_pend _ _ _
theorem pendN_time {life a b : Int} (h : a ≤ b) (l : List (Bs × (Int × Int))) : pendN life b l ≤ pendN life a l := by
  unfold pendN
  rw [← List.countP_eq_length_filter, ← List.countP_eq_length_filter]
  refine List.countP_mono_left (fun e _ he => ?_)
  rw [pendB_iff] at he ⊢
  simp only [decide_eq_true_eq] at he ⊢
  refine ⟨he.1, ?_⟩
  have h2 := he.2
  unfold heldT at h2 ⊢
  omega
theorem pendN_del (life now : Int) (k : Bs) (l : List (Bs × (Int × Int))) : pendN life now (delK k l) ≤ pendN life now l := by
  unfold pendN delK
  exact (List.Sublist.filter _ List.filter_sublist).length_le
theorem pendN_ins (life now : Int) (x : Bs × (Int × Int)) : ∀ l : List (Bs × (Int × Int)), pendN life now (insK x l) = pendN life now l + if pendB life now x.2 then 1 else 0
  | [] => by
    unfold pendN insK
    by_cases h : pendB life now x.2 = true
    · simp [h]
    · simp [h]
  | y :: r => by
    unfold insK
    split
    · unfold pendN
      by_cases h : pendB life now x.2 = true
      · rw [List.filter_cons_of_pos (by simpa using h), if_pos h]; simp
      · rw [List.filter_cons_of_neg (by simpa using h), if_neg h]; simp
    · have ih := pendN_ins life now x r
      unfold pendN at ih ⊢
      by_cases h : pendB life now y.2 = true
      · rw [List.filter_cons_of_pos (by simpa using h), List.filter_cons_of_pos (by simpa using h)]
        simp only [List.length_cons]; omega
      · rw [List.filter_cons_of_neg (by simpa using h), List.filter_cons_of_neg (by simpa using h)]
        exact ih
theorem pendN_put (life now : Int) (k : Bs) (n : Int × Int) (l : List (Bs × (Int × Int))) : pendN life now (putK k n l) ≤ pendN life now l + if pendB life now n then 1 else 0 := by
  unfold putK
  rw [pendN_ins]
  have := pendN_del life now k l
  show _ + (if pendB life now n then 1 else 0) ≤ _
  omega
theorem pendB_none (life now b : Int) : pendB life now (b, -1) = false := by rw [pendB_iff]; simp

/-- what holds ahead of step i, at a time -/
structure JI (jobs : Int) (i : Nat) (now : Int) (c : CS) : Prop where
  jb : c.jobs = jobs
  lost : c.lost = 0
  left : c.o.left = -1
  ops : c.o.ops ≤ i
  keys : SameK c.notes c.o.row
  len : c.o.row.length ≤ i
  pend : (c.pend now : Int) ≤ jobs

theorem decF_no : decF (-1) = -1 := by rfl

section
variable {jobs : Int} {i : Nat} {now : Int} {c : CS} (h : JI jobs i now c) (hn : Rising c.notes) (hr : Rising c.o.row)
include h
theorem JI.time {now' : Int} (ht : now ≤ now') : JI jobs i now' c := { h with pend := by have h1 := h.pend; have h2 := pendN_time (life := c.life) ht c.notes; unfold CS.pend at h1 ⊢; omega }
theorem JI.idle : JI jobs (i + 1) now c := { h with ops := by have := h.ops; omega, len := Nat.le_succ_of_le h.len }
theorem JI.op : JI jobs (i + 1) now { c with o := c.o.op } := { h with left := by show decF c.o.left = -1; rw [h.left]; exact decF_no, ops := by show c.o.ops + 1 ≤ _; have := h.ops; omega, len := Nat.le_succ_of_le h.len }
include hr in
theorem JI.put {nm b : Bs} (hl : lk c.o.row nm = none) : JI jobs (i + 1) now (c.put nm b now) ∧ (c.put nm b now).o.row = if c.o.putCode nm b = 0 then putK nm b c.o.row else c.o.row := by
  have hl2 := h.keys.none hl
  unfold CS.put
  by_cases hc : c.o.putCode nm b = 0
  · rw [if_pos hc, if_pos hc]
    have hp : c.o.put nm b = { c.o.op with row := putK nm b c.o.row } := by unfold OS.put; rw [if_pos hc]
    unfold CS.gone
    dsimp only
    rw [hl2]
    dsimp only
    unfold CS.set
    dsimp only
    rw [hp]
    have hlen := length_putK_le hr nm b
    refine ⟨⟨h.jb, h.lost, ?_, ?_, h.keys.put _ _ _, ?_, ?_⟩, rfl⟩
    · show decF c.o.left = -1; rw [h.left]; exact decF_no
    · show c.o.ops + 1 ≤ _; have := h.ops; omega
    · show (putK nm b c.o.row).length ≤ i + 1; have := h.len; omega
    · have h1 := pendN_put c.life now nm (heldT now, -1) c.notes
      rw [pendB_none, if_neg (by decide)] at h1
      have h2 := h.pend
      unfold CS.pend at h2 ⊢
      show ((pendN c.life now (putK nm (heldT now, -1) c.notes) : Nat) : Int) ≤ jobs
      omega
  · rw [if_neg hc, if_neg hc]
    have hp : c.o.put nm b = c.o.op := by unfold OS.put; rw [if_neg hc]
    rw [hp]
    exact ⟨h.op, rfl⟩
theorem JI.drop {nm : Bs} : JI jobs (i + 1) now (c.drop nm now false) ∧ (c.drop nm now false).o.row = if c.dropCode nm now false = 0 then delK nm c.o.row else c.o.row := by
  unfold CS.drop CS.dropCode
  simp only [Bool.not_false, Bool.true_and]
  by_cases hy : c.young nm (heldT now) = true
  · rw [if_pos hy]
    refine ⟨h.op, ?_⟩
    rw [if_neg]
    · rfl
    · by_cases hg : c.o.getCode nm = 0
      · rw [if_pos ⟨hg, hy⟩]; decide
      · rw [if_neg (fun e => hg e.1)]; exact hg
  · have hdc : (if c.o.getCode nm = 0 ∧ c.young nm (heldT now) = true then 40 else c.o.getCode nm) = c.o.getCode nm := if_neg (fun e => hy e.2)
    rw [if_neg hy, hdc]
    by_cases hg : c.o.getCode nm = 0
    · rw [if_pos hg, if_pos hg]
      have hd : c.o.drop nm = { c.o.op with row := delK nm c.o.row } := by unfold OS.drop; rw [if_pos hg]
      have hs : ∃ v, lk c.o.row nm = some v := by
        unfold OS.getCode at hg
        by_cases h0 : c.o.code ≠ 0
        · rw [if_pos h0] at hg; exact absurd hg h0
        · rw [if_neg h0] at hg
          cases hl : lk c.o.row nm with
          | none => rw [hl] at hg; simp at hg
          | some v => exact ⟨v, rfl⟩
      obtain ⟨v, hv⟩ := hs
      obtain ⟨n, hn⟩ := h.keys.some hv
      have hyo : youngT c.least n.1 (heldT now) = 0 := by
        unfold CS.young at hy
        rw [hn] at hy
        simp at hy
        unfold youngT at hy ⊢
        omega
      unfold CS.gone
      dsimp only
      rw [hn]
      dsimp only
      rw [hd, hyo]
      refine ⟨⟨h.jb, ?_, ?_, ?_, h.keys.del _, ?_, ?_⟩, rfl⟩
      · show c.lost + 0 = 0; rw [h.lost]; rfl
      · show decF c.o.left = -1; rw [h.left]; exact decF_no
      · show c.o.ops + 1 ≤ _; have := h.ops; omega
      · show (delK nm c.o.row).length ≤ i + 1; have h1 := delK_le nm c.o.row; have := h.len; omega
      · have h1 := pendN_del c.life now nm c.notes
        have h2 := h.pend
        unfold CS.pend at h2 ⊢
        show ((pendN c.life now (delK nm c.notes) : Nat) : Int) ≤ jobs
        omega
    · rw [if_neg hg, if_neg hg]
      have hd : c.o.drop nm = c.o.op := by unfold OS.drop; rw [if_neg hg]
      rw [hd]
      exact ⟨h.op, rfl⟩
include hn in
theorem JI.req {nm : Bs} {wait : Int} : JI jobs (i + 1) now (c.req nm now wait) ∧ (c.req nm now wait).o.row = c.o.row := by
  unfold CS.req
  by_cases ha : c.asked nm now wait = true
  · rw [if_pos ha]
    unfold CS.asked at ha
    simp only [Bool.and_eq_true, decide_eq_true_eq, Bool.not_eq_true', decide_eq_false_iff_not] at ha
    obtain ⟨⟨⟨hg, _⟩, _⟩, hp⟩ := ha
    have hs : ∃ v, lk c.o.row nm = some v := by
      unfold OS.getCode at hg
      by_cases h0 : c.o.code ≠ 0
      · rw [if_pos h0] at hg; exact absurd hg h0
      · rw [if_neg h0] at hg
        cases hl : lk c.o.row nm with
        | none => rw [hl] at hg; simp at hg
        | some v => exact ⟨v, rfl⟩
    obtain ⟨v, hv⟩ := hs
    obtain ⟨n, hnn⟩ := h.keys.some hv
    have h0 := h.op
    refine ⟨⟨h.jb, h.lost, h0.left, h0.ops, h.keys.put_left hn hnn _, h0.len, ?_⟩, rfl⟩
    have h1 := pendN_put c.life now nm ((c.noteOf nm).1, afterT (heldT now) wait) c.notes
    have h2 := h.jb
    unfold CS.pend at hp ⊢
    show ((pendN c.life now (putK nm ((c.noteOf nm).1, afterT (heldT now) wait) c.notes) : Nat) : Int) ≤ jobs
    split at h1 <;> omega
  · rw [if_neg ha]
    exact ⟨h.op, rfl⟩
include hn in
theorem JI.fail {nm : Bs} : JI jobs (i + 1) now (c.fail nm now) ∧ (c.fail nm now).o.row = c.o.row := by
  unfold CS.fail
  by_cases ha : c.failed nm now = true
  · rw [if_pos ha]
    have hs : ∃ n, lk c.notes nm = some n := by
      unfold CS.failed at ha
      cases hl : lk c.notes nm with
      | none => rw [hl] at ha; cases ha
      | some n => exact ⟨n, rfl⟩
    obtain ⟨n, hnn⟩ := hs
    have h0 := h.idle
    refine ⟨⟨h.jb, h.lost, h0.left, h0.ops, h.keys.put_left hn hnn _, h0.len, ?_⟩, rfl⟩
    have h1 := pendN_put c.life now nm ((c.noteOf nm).1, -1) c.notes
    rw [pendB_none, if_neg (by decide)] at h1
    have h2 := h.pend
    unfold CS.pend at h2 ⊢
    show ((pendN c.life now (putK nm ((c.noteOf nm).1, -1) c.notes) : Nat) : Int) ≤ jobs
    omega
  · rw [if_neg ha]
    exact ⟨h.idle, rfl⟩
end

/-- what Get answers -/
theorem getCode_cases (c : CS) (nm : Bs) (now : Int) : (c.getCode nm now = 0 ∧ c.state nm now = 2 ∧ ∃ v, lk c.o.row nm = some v ∧ c.getBytes nm now = v) ∨ (c.getCode nm now = 32 ∧ c.state nm now ≠ 2) ∨ (c.getCode nm now ≠ 0 ∧ c.getCode nm now ≠ 32) := by
  by_cases hg : c.o.getCode nm = 0
  · by_cases hs : c.state nm now = 2
    · have e : c.getCode nm now = 0 := by unfold CS.getCode; rw [if_pos hg, if_pos hs]
      refine .inl ⟨e, hs, ?_⟩
      unfold CS.getBytes
      rw [if_pos e]
      unfold OS.getCode at hg
      unfold OS.getBytes
      by_cases h0 : c.o.code ≠ 0
      · rw [if_pos h0] at hg; exact absurd hg h0
      · rw [if_neg h0] at hg ⊢
        cases hl : lk c.o.row nm with
        | none => rw [hl] at hg; simp at hg
        | some v => exact ⟨v, rfl, rfl⟩
    · exact .inr (.inl ⟨by unfold CS.getCode; rw [if_pos hg, if_neg hs], hs⟩)
  · refine .inr (.inr ?_)
    have e : c.getCode nm now = c.o.getCode nm := by unfold CS.getCode; rw [if_neg hg]
    rw [e]
    refine ⟨hg, ?_⟩
    have h30 : c.o.code = 30 ∨ c.o.code = 0 := by unfold OS.code; split <;> simp
    unfold OS.getCode
    by_cases h0 : c.o.code ≠ 0
    · rw [if_pos h0]
      rcases h30 with h | h
      · rw [h]; decide
      · exact absurd h h0
    · rw [if_neg h0]
      cases lk c.o.row nm <;> simp
end Go.Proofs.Ytgnigkghkldcfaa
