/-
  General words: what a block of cells reads as; what a step keeps; a slice that reads as a list. No condition: lemmas on worlds alone.
-/
import Derived.WalkKit
import Derived.WalkLawsBesides
import Derived.WalkSpells
import Derived.Lib.Hide
import Derived.Maps.OwnSet
namespace Go.Proofs.Ytgnigkghkldcfaa
open Go.RowKit

/-- Outside F nothing that was there has turned. -/
structure Keep (F : Nat → Prop) (w w' : World) : Prop where
  os : w'.os = w.os
  tape : w'.tape = w.tape
  output : w'.output = w.output
  size : w.heap.size ≤ w'.heap.size
  block : ∀ k, k < w.heap.size → ¬ F k → w'.heap[k]? = w.heap[k]?

theorem Keep.refl (F : Nat → Prop) (w : World) : Keep F w w := ⟨rfl, rfl, rfl, Nat.le_refl _, fun _ _ _ => rfl⟩
theorem Keep.trans' {F G H : Nat → Prop} {a b c : World} (h : Keep F a b) (k : Keep G b c) (hF : ∀ i, i < a.heap.size → F i → H i) (hG : ∀ i, i < a.heap.size → G i → H i) : Keep H a c :=
  ⟨k.os.trans h.os, k.tape.trans h.tape, k.output.trans h.output, Nat.le_trans h.size k.size, fun i hi hn =>
    (k.block i (Nat.lt_of_lt_of_le hi h.size) (fun g => hn (hG i hi g))).trans (h.block i hi (fun f => hn (hF i hi f)))⟩
theorem Keep.trans {F : Nat → Prop} {a b c : World} (h : Keep F a b) (k : Keep F b c) : Keep F a c := h.trans' k (fun _ _ h => h) (fun _ _ h => h)
theorem Keep.mono {F G : Nat → Prop} {a b : World} (h : Keep F a b) (hF : ∀ i, i < a.heap.size → F i → G i) : Keep G a b :=
  ⟨h.os, h.tape, h.output, h.size, fun i hi hn => h.block i hi (fun f => hn (hF i hi f))⟩
theorem Keep.drew {F : Nat → Prop} {a b : World} (h : Keep F a b) : Keep F a b.drew := ⟨h.os, h.tape, h.output, h.size, h.block⟩
theorem Keep.drewN {F : Nat → Prop} {a b : World} (h : Keep F a b) (n : Nat) : Keep F a (b.drewN n) := ⟨h.os, h.tape, h.output, h.size, h.block⟩
theorem Keep.alloc {F : Nat → Prop} {a b : World} (h : Keep F a b) (o : Obj) : Keep F a (b.alloc o) :=
  h.trans ⟨rfl, rfl, rfl, by simp, fun k hk _ => Below.heap_alloc _ _ _ hk⟩
theorem Keep.setCell {F : Nat → Prop} {a b : World} (h : Keep F a b) {p : Addr} (hp : p.block < a.heap.size → F p.block) (v : Value) : Keep F a (b.setCell p v) :=
  ⟨h.os, h.tape, h.output, by simpa using h.size, fun k hk hn => by
    by_cases e : k = p.block
    · subst e; exact absurd (hp hk) hn
    · rw [Below.heap_setCell _ _ _ _ e]; exact h.block k hk hn⟩
theorem Keep.of_grownBy {w w' : World} {row : Option Nat} (h : w.grownBy w' row) : Keep (fun k => row = some k) w w' :=
  ⟨h.os, h.tape, h.output, h.size, fun k hk hn => h.block k hk (fun e => hn e.symm)⟩
theorem Keep.of_below {w w' : World} (h : Below w.heap.size w w') (F : Nat → Prop) : Keep F w w' :=
  ⟨h.os, h.tape, h.output, h.size, fun k hk _ => h.block k hk⟩
theorem Keep.below {F : Nat → Prop} {w w' : World} (h : Keep F w w') {B : Nat} (hF : ∀ k, k < B → ¬ F k) (hB : B ≤ w.heap.size) : Below B w w' :=
  ⟨h.os, h.tape, h.output, h.size, fun k hk => h.block k (by omega) (hF k hk)⟩
theorem Keep.heap {F : Nat → Prop} {w w' : World} (h : Keep F w w') {b : Nat} {o : Obj} (hb : w.heap[b]? = some o) (hn : ¬ F b) : w'.heap[b]? = some o :=
  (h.block b (Array.getElem?_eq_some_iff.1 hb).1 hn).trans hb

/-! ### a block of cells -/
section
variable {w : World} {b : Nat} {cs : Array Value} {t : TypeId} {f : Nat × Nat}
theorem cell_blk (h : w.heap[b]? = some (.cells cs t f)) (i : Nat) : w.cell? ⟨b, i, none⟩ = cs[i]? := by simp [World.cell?, h]
theorem frozen_blk (h : w.heap[b]? = some (.cells cs t (0, 0))) (i : Nat) : w.frozen? ⟨b, i, none⟩ = false := by simp [World.frozen?, h]
theorem lt_blk {o : Obj} (h : w.heap[b]? = some o) : b < w.heap.size := (Array.getElem?_eq_some_iff.1 h).1
theorem set_blk (h : w.heap[b]? = some (.cells cs t f)) (i : Nat) (v : Value) : (w.setCell ⟨b, i, none⟩ v).heap[b]? = some (.cells (cs.setIfInBounds i v) t f) := by
  simp [World.setCell, Array.getElem?_modify, h]
theorem set_other {o : Obj} (h : w.heap[b]? = some o) {p : Addr} (hp : b ≠ p.block) (v : Value) : (w.setCell p v).heap[b]? = some o :=
  (Below.heap_setCell w p v b hp).trans h
theorem alloc_blk {o : Obj} (h : w.heap[b]? = some o) (o' : Obj) : (w.alloc o').heap[b]? = some o :=
  (Below.heap_alloc w o' b (lt_blk h)).trans h
theorem alloc_new (w : World) (o : Obj) : (w.alloc o).heap[w.heap.size]? = some o := heap_alloc_new w o
theorem drew_blk {o : Obj} (h : w.heap[b]? = some o) : w.drew.heap[b]? = some o := h
end

/-! ### a slice that reads as a list of cells -/
def vblk : Value → Option Nat
  | .slice (some a) _ _ => some a.block
  | .pointer (some a) => some a.block
  | _ => none

/-- v is a slice of n elements of k cells each, which reads as xs; its capacity c. -/
def Sl (w : World) (k : Nat) (v : Value) (n : Nat) (xs : List Value) : Prop :=
  xs.length = n * k ∧ ∃ a c, v = .slice a n c ∧ n ≤ c ∧ c ≤ maxLen ∧ (a = none → c = 0) ∧
    (0 < n → ∃ b o, a = some ⟨b, o, none⟩ ∧ ∀ j, j < n * k → w.cell? ⟨b, o + j, none⟩ = xs[j]?)

theorem Sl.keep {F : Nat → Prop} {w w' : World} {k : Nat} {v : Value} {n : Nat} {xs : List Value} (h : Sl w k v n xs) (hk : Keep F w w') (hF : ∀ b, 0 < n → vblk v = some b → ¬ F b) : Sl w' k v n xs := by
  obtain ⟨h1, a, c, rfl, h2, h3, h4, h6⟩ := h
  refine ⟨h1, a, c, rfl, h2, h3, h4, fun hn => ?_⟩
  obtain ⟨b, o, rfl, h7⟩ := h6 hn
  refine ⟨b, o, rfl, fun j hj => ?_⟩
  rw [← h7 j hj]
  have hlt : b < w.heap.size := by
    have := h7 j hj
    rw [List.getElem?_eq_getElem (by omega)] at this
    exact World.block_lt_of_cell? (a := ⟨b, o + j, none⟩) w this
  exact World.cell?_of_block (hk.block b hlt (hF b hn rfl))

theorem Sl.at0 {w : World} {k : Nat} {v : Value} {n : Nat} {xs : List Value} (h : Sl w k v n xs) (hn : 0 < n * k) {b : Nat} (hb : vblk v = some b) : ∃ o, w.cell? ⟨b, o, none⟩ = xs[0]? ∧ xs[0]?.isSome = true := by
  obtain ⟨h1, a, c, rfl, h2, h3, h4, h6⟩ := h
  obtain ⟨b', o, rfl, h7⟩ := h6 (Nat.pos_of_mul_pos_right hn)
  have := h7 0 hn
  simp [vblk] at hb
  subst hb
  exact ⟨o, by simpa using this, by rw [List.getElem?_eq_getElem (by omega)]; rfl⟩
theorem Sl.ne_cells {w : World} {k : Nat} {v : Value} {n : Nat} {xs : List Value} (h : Sl w k v n xs) (hk : 0 < k) {b : Nat} {cs : Array Value} {t : TypeId} {f : Nat × Nat} (hb : w.heap[b]? = some (.cells cs t f))
    (hcs : ∀ x, xs[0]? = some x → ∀ i : Nat, cs[i]? ≠ some x) : 0 < n → vblk v ≠ some b := by
  intro hn e
  obtain ⟨o, h1, h2⟩ := h.at0 (Nat.mul_pos hn hk) e
  obtain ⟨x, hx⟩ := Option.isSome_iff_exists.1 h2
  rw [cell_blk hb, hx] at h1
  exact hcs x hx o h1
theorem Sl.ne_other {w : World} {k : Nat} {v : Value} {n : Nat} {xs : List Value} (h : Sl w k v n xs) (hk : 0 < k) {b : Nat} {o : Obj} (hb : w.heap[b]? = some o) (ho : ∀ cs t f, o ≠ .cells cs t f) : 0 < n → vblk v ≠ some b := by
  intro hn e
  obtain ⟨o', h1, h2⟩ := h.at0 (Nat.mul_pos hn hk) e
  rw [Option.isSome_iff_exists] at h2
  obtain ⟨x, hx⟩ := h2
  rw [hx] at h1
  unfold World.cell? at h1
  simp only [hb] at h1
  cases o <;> simp at h1
  exact ho _ _ _ rfl
theorem Sl.lt {w : World} {k : Nat} {v : Value} {n : Nat} {xs : List Value} (h : Sl w k v n xs) (hk : 0 < k) (hn : 0 < n) {b : Nat} (hb : vblk v = some b) : b < w.heap.size := by
  obtain ⟨o, h1, h2⟩ := h.at0 (Nat.mul_pos hn hk) hb
  obtain ⟨x, hx⟩ := Option.isSome_iff_exists.1 h2
  rw [hx] at h1
  exact World.block_lt_of_cell? (a := ⟨b, o, none⟩) w h1

theorem Sl.nil (w : World) (k : Nat) : Sl w k (.slice none 0 0) 0 [] := ⟨by simp, none, 0, rfl, Nat.le_refl _, Nat.zero_le _, fun _ => rfl, fun h => absurd h (Nat.lt_irrefl _)⟩

theorem Sl.of_owns {w : World} {base : Nat} {e : TypeId} {k : Nat} {v : Value} {n : Nat} {xs : List Value} (h : w.ownsRow base e k v n xs) : Sl w k v n xs ∧ ∀ b, vblk v = some b → base ≤ b := by
  obtain ⟨h1, h2⟩ := h
  rcases h2 with ⟨rfl, rfl⟩ | ⟨g, cap, cur, rfl, hg, hh, hc, hm, hs, ht⟩
  · exact ⟨⟨h1, none, 0, rfl, Nat.le_refl _, Nat.zero_le _, fun _ => rfl, fun hn => absurd hn (Nat.lt_irrefl _)⟩, fun b hb => by simp [vblk] at hb⟩
  · refine ⟨⟨h1, _, cap, rfl, hc, hm, (fun e => by cases e), fun _ => ⟨g, 0, rfl, fun j hj => ?_⟩⟩, fun b hb => by simp [vblk] at hb; omega⟩
    rw [Nat.zero_add, cell_blk hh, ← ht, List.getElem?_take, if_pos hj, Array.getElem?_toList]
/-- the cells at its address -/
theorem Sl.cells {w : World} {k : Nat} {a : Addr} {n c : Nat} {xs : List Value} (h : Sl w k (.slice (some a) n c) n xs) : ∀ j u, xs[j]? = some u → w.cell? (a.add j) = some u := by
  intro j u hu
  obtain ⟨h1, a', c', e, h2, h3, h4, h5⟩ := h
  simp only [Value.slice.injEq] at e
  obtain ⟨rfl, _, rfl⟩ := e
  have hj : j < xs.length := (List.getElem?_eq_some_iff.1 hu).1
  rw [h1] at hj
  obtain ⟨b, o, e2, h6⟩ := h5 (Nat.pos_of_mul_pos_right (Nat.lt_of_le_of_lt (Nat.zero_le _) hj))
  cases e2
  have : (⟨b, o, none⟩ : Addr).add j = ⟨b, o + j, none⟩ := by unfold Addr.add; split <;> simp_all
  rw [this, h6 j hj, hu]

/-! ### two lists in step -/
def All2 {α β : Type} (R : α → β → Prop) : List α → List β → Prop
  | [], [] => True
  | a :: l, b :: m => R a b ∧ All2 R l m
  | _, _ => False

theorem All2.length {α β : Type} {R : α → β → Prop} : ∀ {l : List α} {m : List β}, All2 R l m → l.length = m.length
  | [], [], _ => rfl
  | _ :: _, _ :: _, h => congrArg (· + 1) (All2.length h.2)
  | [], _ :: _, h => h.elim
  | _ :: _, [], h => h.elim
theorem All2.imp {α β : Type} {R S : α → β → Prop} : ∀ {l : List α} {m : List β}, All2 R l m → (∀ a, a ∈ l → ∀ b, b ∈ m → R a b → S a b) → All2 S l m
  | [], [], _, _ => trivial
  | a :: l, b :: m, h, f => ⟨f a (by simp) b (by simp) h.1, All2.imp h.2 (fun a ha b hb => f a (List.mem_cons_of_mem _ ha) b (List.mem_cons_of_mem _ hb))⟩
  | [], _ :: _, h, _ => h.elim
  | _ :: _, [], h, _ => h.elim
theorem All2.get {α β : Type} {R : α → β → Prop} : ∀ {l : List α} {m : List β}, All2 R l m → ∀ (i : Nat) (a : α) (b : β), l[i]? = some a → m[i]? = some b → R a b
  | [], [], _, i, a, b, ha, _ => by simp at ha
  | x :: l, y :: m, h, 0, a, b, ha, hb => by simp at ha hb; rw [← ha, ← hb]; exact h.1
  | x :: l, y :: m, h, i + 1, a, b, ha, hb => All2.get h.2 i a b (by simpa using ha) (by simpa using hb)
  | [], _ :: _, h, _, _, _, _, _ => h.elim
  | _ :: _, [], h, _, _, _, _, _ => h.elim
theorem All2.filter {α β : Type} {R : α → β → Prop} {p : α → Bool} {q : β → Bool} : ∀ {l : List α} {m : List β}, All2 R l m → (∀ a b, R a b → p a = q b) → All2 R (l.filter p) (m.filter q)
  | [], [], _, _ => trivial
  | a :: l, b :: m, h, f => by
    have e := f a b h.1
    cases hq : q b
    · rw [List.filter_cons_of_neg (by rw [e, hq]; simp), List.filter_cons_of_neg (by rw [hq]; simp)]; exact All2.filter h.2 f
    · rw [List.filter_cons_of_pos (by rw [e, hq]), List.filter_cons_of_pos hq]; exact ⟨h.1, All2.filter h.2 f⟩
  | [], _ :: _, h, _ => h.elim
  | _ :: _, [], h, _ => h.elim
end Go.Proofs.Ytgnigkghkldcfaa
