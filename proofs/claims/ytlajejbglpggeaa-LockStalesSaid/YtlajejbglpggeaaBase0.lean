/-
  General words: what a block of cells reads as; what a step keeps; a slice that reads as a list. No condition: lemmas on worlds alone.
-/
import Derived.WalkKit
import Derived.WalkLawsBesides
import Derived.WalkSpells
import Derived.Lib.Hide
import Derived.Maps.OwnSet
import Derived.Shelf.GgClosure.StringsIndexFuncTop

/-! General words: what a block of cells reads as; what a step keeps; a slice that reads as a list. No condition: lemmas on worlds alone. -/
namespace Go.Proofs.Ytlajejbglpggeaa
open Go.RowKit

/-- Outside F nothing that was there has turned. -/
structure Keep (F : Nat → Prop) (w w' : World) : Prop where
  os : w'.os = w.os
  tape : w'.tape = w.tape
  output : w'.output = w.output
  size : w.heap.size ≤ w'.heap.size
  block : ∀ k, k < w.heap.size → ¬ F k → w'.heap[k]? = w.heap[k]?

theorem Keep.refl (F : Nat → Prop) (w : World) : Keep F w w := ⟨rfl, rfl, rfl, Nat.le_refl _, fun _ _ _ => rfl⟩
theorem Keep.trans' {F G H : Nat → Prop} {a b c : World} (h : Keep F a b) (k : Keep G b c) (hF : ∀ i, i < a.heap.size → F i → H i) (hG : ∀ i, i < a.heap.size → G i → H i) : Keep H a c :=
  ⟨k.os.trans h.os, k.tape.trans h.tape, k.output.trans h.output, Nat.le_trans h.size k.size, fun i hi hn =>
    (k.block i (Nat.lt_of_lt_of_le hi h.size) (fun g => hn (hG i hi g))).trans (h.block i hi (fun f => hn (hF i hi f)))⟩
theorem Keep.trans {F : Nat → Prop} {a b c : World} (h : Keep F a b) (k : Keep F b c) : Keep F a c := h.trans' k (fun _ _ h => h) (fun _ _ h => h)
theorem Keep.mono {F G : Nat → Prop} {a b : World} (h : Keep F a b) (hF : ∀ i, i < a.heap.size → F i → G i) : Keep G a b :=
  ⟨h.os, h.tape, h.output, h.size, fun i hi hn => h.block i hi (fun f => hn (hF i hi f))⟩
theorem Keep.drew {F : Nat → Prop} {a b : World} (h : Keep F a b) : Keep F a b.drew := ⟨h.os, h.tape, h.output, h.size, h.block⟩
theorem Keep.drewN {F : Nat → Prop} {a b : World} (h : Keep F a b) (n : Nat) : Keep F a (b.drewN n) := ⟨h.os, h.tape, h.output, h.size, h.block⟩
theorem Keep.alloc {F : Nat → Prop} {a b : World} (h : Keep F a b) (o : Obj) : Keep F a (b.alloc o) :=
  h.trans ⟨rfl, rfl, rfl, by simp, fun k hk _ => Below.heap_alloc _ _ _ hk⟩
theorem Keep.setCell {F : Nat → Prop} {a b : World} (h : Keep F a b) {p : Addr} (hp : p.block < a.heap.size → F p.block) (v : Value) : Keep F a (b.setCell p v) :=
  ⟨h.os, h.tape, h.output, by simpa using h.size, fun k hk hn => by
    by_cases e : k = p.block
    · subst e; exact absurd (hp hk) hn
    · rw [Below.heap_setCell _ _ _ _ e]; exact h.block k hk hn⟩
theorem Keep.of_grownBy {w w' : World} {row : Option Nat} (h : w.grownBy w' row) : Keep (fun k => row = some k) w w' :=
  ⟨h.os, h.tape, h.output, h.size, fun k hk hn => h.block k hk (fun e => hn e.symm)⟩
theorem Keep.of_below {w w' : World} (h : Below w.heap.size w w') (F : Nat → Prop) : Keep F w w' :=
  ⟨h.os, h.tape, h.output, h.size, fun k hk _ => h.block k hk⟩
theorem Keep.below {F : Nat → Prop} {w w' : World} (h : Keep F w w') {B : Nat} (hF : ∀ k, k < B → ¬ F k) (hB : B ≤ w.heap.size) : Below B w w' :=
  ⟨h.os, h.tape, h.output, h.size, fun k hk => h.block k (by omega) (hF k hk)⟩
theorem Keep.heap {F : Nat → Prop} {w w' : World} (h : Keep F w w') {b : Nat} {o : Obj} (hb : w.heap[b]? = some o) (hn : ¬ F b) : w'.heap[b]? = some o :=
  (h.block b (Array.getElem?_eq_some_iff.1 hb).1 hn).trans hb

/-! ### a block of cells -/
section
variable {w : World} {b : Nat} {cs : Array Value} {t : TypeId} {f : Nat × Nat}
theorem cell_blk (h : w.heap[b]? = some (.cells cs t f)) (i : Nat) : w.cell? ⟨b, i, none⟩ = cs[i]? := by simp [World.cell?, h]
theorem frozen_blk (h : w.heap[b]? = some (.cells cs t (0, 0))) (i : Nat) : w.frozen? ⟨b, i, none⟩ = false := by simp [World.frozen?, h]
theorem lt_blk {o : Obj} (h : w.heap[b]? = some o) : b < w.heap.size := (Array.getElem?_eq_some_iff.1 h).1
theorem set_blk (h : w.heap[b]? = some (.cells cs t f)) (i : Nat) (v : Value) : (w.setCell ⟨b, i, none⟩ v).heap[b]? = some (.cells (cs.setIfInBounds i v) t f) := by
  simp [World.setCell, Array.getElem?_modify, h]
theorem set_other {o : Obj} (h : w.heap[b]? = some o) {p : Addr} (hp : b ≠ p.block) (v : Value) : (w.setCell p v).heap[b]? = some o :=
  (Below.heap_setCell w p v b hp).trans h
theorem alloc_blk {o : Obj} (h : w.heap[b]? = some o) (o' : Obj) : (w.alloc o').heap[b]? = some o :=
  (Below.heap_alloc w o' b (lt_blk h)).trans h
theorem alloc_new (w : World) (o : Obj) : (w.alloc o).heap[w.heap.size]? = some o := heap_alloc_new w o
theorem drew_blk {o : Obj} (h : w.heap[b]? = some o) : w.drew.heap[b]? = some o := h
end

/-! ### a slice that reads as a list of cells -/
def vblk : Value → Option Nat
  | .slice (some a) _ _ => some a.block
  | .pointer (some a) => some a.block
  | _ => none

/-- v is a slice of n elements of k cells each, which reads as xs; its capacity c. -/
def Sl (w : World) (k : Nat) (v : Value) (n : Nat) (xs : List Value) : Prop :=
  xs.length = n * k ∧ ∃ a c, v = .slice a n c ∧ n ≤ c ∧ c ≤ maxLen ∧ (a = none → c = 0) ∧
    (0 < n → ∃ b o, a = some ⟨b, o, none⟩ ∧ ∀ j, j < n * k → w.cell? ⟨b, o + j, none⟩ = xs[j]?)

theorem Sl.keep {F : Nat → Prop} {w w' : World} {k : Nat} {v : Value} {n : Nat} {xs : List Value} (h : Sl w k v n xs) (hk : Keep F w w') (hF : ∀ b, 0 < n → vblk v = some b → ¬ F b) : Sl w' k v n xs := by
  obtain ⟨h1, a, c, rfl, h2, h3, h4, h6⟩ := h
  refine ⟨h1, a, c, rfl, h2, h3, h4, fun hn => ?_⟩
  obtain ⟨b, o, rfl, h7⟩ := h6 hn
  refine ⟨b, o, rfl, fun j hj => ?_⟩
  rw [← h7 j hj]
  have hlt : b < w.heap.size := by
    have := h7 j hj
    rw [List.getElem?_eq_getElem (by omega)] at this
    exact World.block_lt_of_cell? (a := ⟨b, o + j, none⟩) w this
  exact World.cell?_of_block (hk.block b hlt (hF b hn rfl))

theorem Sl.at0 {w : World} {k : Nat} {v : Value} {n : Nat} {xs : List Value} (h : Sl w k v n xs) (hn : 0 < n * k) {b : Nat} (hb : vblk v = some b) : ∃ o, w.cell? ⟨b, o, none⟩ = xs[0]? ∧ xs[0]?.isSome = true := by
  obtain ⟨h1, a, c, rfl, h2, h3, h4, h6⟩ := h
  obtain ⟨b', o, rfl, h7⟩ := h6 (Nat.pos_of_mul_pos_right hn)
  have := h7 0 hn
  simp [vblk] at hb
  subst hb
  exact ⟨o, by rw [Nat.add_zero] at this; exact this, by rw [List.getElem?_eq_getElem (by omega)]; rfl⟩
theorem Sl.ne_cells {w : World} {k : Nat} {v : Value} {n : Nat} {xs : List Value} (h : Sl w k v n xs) (hk : 0 < k) {b : Nat} {cs : Array Value} {t : TypeId} {f : Nat × Nat} (hb : w.heap[b]? = some (.cells cs t f))
    (hcs : ∀ x, xs[0]? = some x → ∀ i : Nat, cs[i]? ≠ some x) : 0 < n → vblk v ≠ some b := by
  intro hn e
  obtain ⟨o, h1, h2⟩ := h.at0 (Nat.mul_pos hn hk) e
  obtain ⟨x, hx⟩ := Option.isSome_iff_exists.1 h2
  rw [cell_blk hb, hx] at h1
  exact hcs x hx o h1
theorem Sl.ne_other {w : World} {k : Nat} {v : Value} {n : Nat} {xs : List Value} (h : Sl w k v n xs) (hk : 0 < k) {b : Nat} {o : Obj} (hb : w.heap[b]? = some o) (ho : ∀ cs t f, o ≠ .cells cs t f) : 0 < n → vblk v ≠ some b := by
  intro hn e
  obtain ⟨o', h1, h2⟩ := h.at0 (Nat.mul_pos hn hk) e
  rw [Option.isSome_iff_exists] at h2
  obtain ⟨x, hx⟩ := h2
  rw [hx] at h1
  unfold World.cell? at h1
  simp only [hb] at h1
  cases o <;> simp at h1
  exact ho _ _ _ rfl
theorem Sl.lt {w : World} {k : Nat} {v : Value} {n : Nat} {xs : List Value} (h : Sl w k v n xs) (hk : 0 < k) (hn : 0 < n) {b : Nat} (hb : vblk v = some b) : b < w.heap.size := by
  obtain ⟨o, h1, h2⟩ := h.at0 (Nat.mul_pos hn hk) hb
  obtain ⟨x, hx⟩ := Option.isSome_iff_exists.1 h2
  rw [hx] at h1
  exact World.block_lt_of_cell? (a := ⟨b, o, none⟩) w h1

theorem Sl.nil (w : World) (k : Nat) : Sl w k (.slice none 0 0) 0 [] := ⟨by simp, none, 0, rfl, Nat.le_refl _, Nat.zero_le _, fun _ => rfl, fun h => absurd h (Nat.lt_irrefl _)⟩

theorem Sl.of_owns {w : World} {base : Nat} {e : TypeId} {k : Nat} {v : Value} {n : Nat} {xs : List Value} (h : w.ownsRow base e k v n xs) : Sl w k v n xs ∧ ∀ b, vblk v = some b → base ≤ b := by
  obtain ⟨h1, h2⟩ := h
  rcases h2 with ⟨rfl, rfl⟩ | ⟨g, cap, cur, rfl, hg, hh, hc, hm, hs, ht⟩
  · exact ⟨⟨h1, none, 0, rfl, Nat.le_refl _, Nat.zero_le _, fun _ => rfl, fun hn => absurd hn (Nat.lt_irrefl _)⟩, fun b hb => by simp [vblk] at hb⟩
  · refine ⟨⟨h1, _, cap, rfl, hc, hm, (fun e => by cases e), fun _ => ⟨g, 0, rfl, fun j hj => ?_⟩⟩, fun b hb => by simp [vblk] at hb; omega⟩
    rw [Nat.zero_add, cell_blk hh, ← ht, List.getElem?_take, if_pos hj, Array.getElem?_toList]
/-- the cells at its address -/
theorem Sl.cells {w : World} {k : Nat} {a : Addr} {n c : Nat} {xs : List Value} (h : Sl w k (.slice (some a) n c) n xs) : ∀ j u, xs[j]? = some u → w.cell? (a.add j) = some u := by
  intro j u hu
  obtain ⟨h1, a', c', e, h2, h3, h4, h5⟩ := h
  simp only [Value.slice.injEq] at e
  obtain ⟨rfl, _, rfl⟩ := e
  have hj : j < xs.length := (List.getElem?_eq_some_iff.1 hu).1
  rw [h1] at hj
  obtain ⟨b, o, e2, h6⟩ := h5 (Nat.pos_of_mul_pos_right (Nat.lt_of_le_of_lt (Nat.zero_le _) hj))
  cases e2
  have : (⟨b, o, none⟩ : Addr).add j = ⟨b, o + j, none⟩ := by unfold Addr.add; split <;> simp_all
  rw [this, h6 j hj, hu]

/-! ### two lists in step -/
def All2 {α β : Type} (R : α → β → Prop) : List α → List β → Prop
  | [], [] => True
  | a :: l, b :: m => R a b ∧ All2 R l m
  | _, _ => False

theorem All2.length {α β : Type} {R : α → β → Prop} : ∀ {l : List α} {m : List β}, All2 R l m → l.length = m.length
  | [], [], _ => rfl
  | _ :: _, _ :: _, h => congrArg (· + 1) (All2.length h.2)
  | [], _ :: _, h => h.elim
  | _ :: _, [], h => h.elim
theorem All2.imp {α β : Type} {R S : α → β → Prop} : ∀ {l : List α} {m : List β}, All2 R l m → (∀ a, a ∈ l → ∀ b, b ∈ m → R a b → S a b) → All2 S l m
  | [], [], _, _ => trivial
  | a :: l, b :: m, h, f => ⟨f a (by simp) b (by simp) h.1, All2.imp h.2 (fun a ha b hb => f a (List.mem_cons_of_mem _ ha) b (List.mem_cons_of_mem _ hb))⟩
  | [], _ :: _, h, _ => h.elim
  | _ :: _, [], h, _ => h.elim
theorem All2.get {α β : Type} {R : α → β → Prop} : ∀ {l : List α} {m : List β}, All2 R l m → ∀ (i : Nat) (a : α) (b : β), l[i]? = some a → m[i]? = some b → R a b
  | [], [], _, i, a, b, ha, _ => by simp at ha
  | x :: l, y :: m, h, 0, a, b, ha, hb => by simp at ha hb; rw [← ha, ← hb]; exact h.1
  | x :: l, y :: m, h, i + 1, a, b, ha, hb => All2.get h.2 i a b (by simpa using ha) (by simpa using hb)
  | [], _ :: _, h, _, _, _, _, _ => h.elim
  | _ :: _, [], h, _, _, _, _, _ => h.elim
theorem All2.filter {α β : Type} {R : α → β → Prop} {p : α → Bool} {q : β → Bool} : ∀ {l : List α} {m : List β}, All2 R l m → (∀ a b, R a b → p a = q b) → All2 R (l.filter p) (m.filter q)
  | [], [], _, _ => trivial
  | a :: l, b :: m, h, f => by
    have e := f a b h.1
    cases hq : q b
    · rw [List.filter_cons_of_neg (by rw [e, hq]; simp), List.filter_cons_of_neg (by rw [hq]; simp)]; exact All2.filter h.2 f
    · rw [List.filter_cons_of_pos (by rw [e, hq]), List.filter_cons_of_pos hq]; exact ⟨h.1, All2.filter h.2 f⟩
  | [], _ :: _, h, _ => h.elim
  | _ :: _, [], h, _ => h.elim
end Go.Proofs.Ytlajejbglpggeaa

/-! A map from texts to whatever values, read as a rising list: look-up, store, delete, length; over any program. -/
namespace Go.Proofs.Ytlajejbglpggeaa
open Go.RowKit Go.Proofs Go.Maps

abbrev Bs := List UInt8
abbrev strV (b : Bs) : Value := .string ⟨b.toArray⟩
def bytesV (l : Bs) : List Value := l.map fun c => .int .u8 (c.toNat : Int)

/-- A slice of bytes that reads as l. -/
def BytesAt (w : World) (v : Value) (l : Bs) : Prop := Sl w 1 v l.length (bytesV l)

/-- the map's elements are read as themselves -/
def heldR (v : Value) : Option (DataW Value × List MemPlace) := some (.held v, [])
def encE (e : Bs × Value) : Lit × DataW Value := (.string e.1, .held e.2)
def entsD (m : List (Bs × Value)) : DataW Value := .map (m.map encE)

section
variable {α : Type}
def lk (m : List (Bs × α)) (k : Bs) : Option α := (m.find? (fun e => e.1 == k)).map (·.2)
def insK (x : Bs × α) : List (Bs × α) → List (Bs × α)
  | [] => [x]
  | y :: r => if bytesBefore x.1 y.1 then x :: y :: r else y :: insK x r
def delK (k : Bs) (m : List (Bs × α)) : List (Bs × α) := m.filter (fun e => !(e.1 == k))
theorem lk_cons (e : Bs × α) (r : List (Bs × α)) (k : Bs) : lk (e :: r) k = if (e.1 == k) = true then some e.2 else lk r k := by
  unfold lk
  rw [List.find?_cons]
  cases e.1 == k <;> rfl
def putK (k : Bs) (v : α) (m : List (Bs × α)) : List (Bs × α) := insK (k, v) (delK k m)
end

theorem enc_ins (x : Bs × Value) : ∀ m : List (Bs × Value), (insK x m).map encE = DataW.insert (encE x) (m.map encE)
  | [] => rfl
  | y :: r => by
    have hb : (encE x).1.before (encE y).1 = bytesBefore x.1 y.1 := rfl
    unfold insK
    simp only [List.map_cons, DataW.insert, hb]
    split
    · rfl
    · rw [List.map_cons, enc_ins x r]

theorem enc_del (k : Bs) (m : List (Bs × Value)) : (delK k m).map encE = (m.map encE).filter (fun p => !p.1.sameKey (.string k)) := by
  rw [List.filter_map]; rfl

theorem entsD_put (k : Bs) (v : Value) (m : List (Bs × Value)) : entsD (putK k v m) = (entsD m).put (.string k) (.held v) := by
  unfold entsD putK DataW.put
  rw [enc_ins, enc_del]; rfl

theorem entsD_del (k : Bs) (m : List (Bs × Value)) : entsD (delK k m) = (entsD m).del (.string k) := by
  unfold entsD DataW.del
  rw [enc_del]

theorem entsD_at (m : List (Bs × Value)) (k : Bs) (z : Value) : (entsD m).atKey (.string k) (.held z) = .held ((lk m k).getD z) := by
  unfold entsD DataW.atKey lk
  simp only [List.find?_map]
  have : ((fun p : Lit × DataW Value => p.1.sameKey (.string k)) ∘ encE) = fun e => e.1 == k := rfl
  rw [this]
  cases m.find? (fun e => e.1 == k) <;> rfl

theorem entsD_has (m : List (Bs × Value)) (k : Bs) : Maps.has (entsD m) (.string k) = (lk m k).isSome := by
  unfold entsD lk Maps.has
  simp only [List.any_map]
  have : ((fun p : Lit × DataW Value => p.1.sameKey (.string k)) ∘ encE) = fun e => e.1 == k := rfl
  rw [this]
  rw [Option.isSome_map, List.isSome_find?]

variable {P : Program} {kt : TypeId}

def MapP (P : Program) (kt : TypeId) (w : World) (mb : Nat) (m : List (Bs × Value)) : Prop := w.ownsMap P kt heldR mb m.length (entsD m)

theorem MapP.keep {F : Nat → Prop} {w w' : World} {mb : Nat} {m : List (Bs × Value)} (h : MapP P kt w mb m) (k : Keep F w w') (hF : ¬ F mb) : MapP P kt w' mb m := by
  obtain ⟨es, clock, hb, r⟩ := h
  exact ⟨es, clock, k.heap hb hF, r⟩
theorem MapP.obj {w : World} {mb : Nat} {m : List (Bs × Value)} (h : MapP P kt w mb m) : ∃ es clock, w.heap[mb]? = some (.map es clock) := by
  obtain ⟨es, clock, hb, r⟩ := h
  exact ⟨es, clock, hb⟩
theorem MapP.lt {w : World} {mb : Nat} {m : List (Bs × Value)} (h : MapP P kt w mb m) : mb < w.heap.size := let ⟨_, _, hb⟩ := h.obj; lt_blk hb
theorem MapP.ne {w : World} {mb : Nat} {m : List (Bs × Value)} (h : MapP P kt w mb m) {b : Nat} {cs : Array Value} {t : TypeId} {f : Nat × Nat} (hb : w.heap[b]? = some (.cells cs t f)) : mb ≠ b := by
  obtain ⟨es, clock, hm⟩ := h.obj
  rintro rfl
  rw [hm] at hb; cases hb
theorem MapP.made (w : World) : MapP P kt (w.alloc (.map #[] 0)) w.heap.size [] := World.ownsMap_made w P kt heldR

/-- the bound on the entries is their number -/
theorem owns_exact {w : World} {mb n : Nat} {m : List (Bs × Value)} (h : w.ownsMap P kt heldR mb n (entsD m)) : MapP P kt w mb m := by
  obtain ⟨es, clock, hb, F, hs, hD⟩ := h
  refine ⟨es, clock, hb, F, ?_, hD⟩
  have : (m.map encE).length = es.size := by
    have e : m.map encE = (es.toList.map (WideElems.rg P kt heldR)).foldr DataW.insert [] := by
      simp only [entsD, DataW.map.injEq] at hD; exact hD
    rw [e, length_sorted]; simp
  rw [List.length_map] at this
  omega

section
variable (hk : P.underlying kt = some .string) {t e : TypeId} (ht : P.underlying t = some (.map kt e)) {w : World} {mb : Nat} {m : List (Bs × Value)} (h : MapP P kt w mb m) (s : ByteArray) (hs : s.size ≤ maxLen)
include hk ht h hs

theorem MapP.look {z : Value} (hz : (zeroValue e).run P w = .ok z w) : (Instr.lookup t (.map (some mb)) (.string s) false).run P w = .ok ((lk m s.data.toList).getD z) w := by
  obtain ⟨v, ps, hrun, hv⟩ := h.lookup (zd := .held z) (zp := []) (string_keyed hk) ht hz rfl (WideMaps.keyOf_string_mk hk hs)
  rw [entsD_at] at hv
  cases hv
  exact hrun

theorem MapP.look_ok {z : Value} (hz : (zeroValue e).run P w = .ok z w) : (Instr.lookup t (.map (some mb)) (.string s) true).run P w = .ok (.tuple #[(lk m s.data.toList).getD z, .bool (lk m s.data.toList).isSome]) w := by
  obtain ⟨v, ps, hrun, hv⟩ := World.ownsMap.look_ok h (zd := .held z) (zp := []) (string_keyed hk) ht hz rfl (WideMaps.keyOf_string_mk hk hs)
  rw [entsD_at] at hv
  cases hv
  rw [entsD_has] at hrun
  exact hrun

theorem MapP.update (hn : m.length < maxLen) (v : Value) : ∃ w', (Instr.mapUpdate t (.map (some mb)) (.string s) v).run P w = .ok () w' ∧ MapP P kt w' mb (putK s.data.toList v m) ∧ Keep (· = mb) w w' := by
  obtain ⟨w', hrun, h1, h2⟩ := World.ownsMap.update h (d := .held v) (ps := []) (string_keyed hk) ht hn (WideMaps.keyOf_string_mk hk hs) (rfl : heldR v = _)
  refine ⟨w', hrun, owns_exact (by rw [entsD_put]; exact h1), (Keep.of_grownBy h2).mono (fun i _ e => by cases e; rfl)⟩

theorem MapP.drop (ty : TypeId) : ∃ w', (Builtin.delete_ #[t, kt] ty #[.map (some mb), .string s]).run P w = .ok (.tuple #[]) w' ∧ MapP P kt w' mb (delK s.data.toList m) ∧ Keep (· = mb) w w' := by
  obtain ⟨w', hrun, h1, h2⟩ := World.ownsMap.drop h (string_keyed hk) ht (WideMaps.keyOf_string_mk hk hs) ty
  exact ⟨w', hrun, owns_exact (by rw [entsD_del]; exact h1), (Keep.of_grownBy h2.grown).mono (fun i _ e => by cases e; rfl)⟩
end

theorem MapP.len {t e : TypeId} (ht : P.underlying t = some (.map kt e)) {w : World} {mb : Nat} {m : List (Bs × Value)} (h : MapP P kt w mb m) (ty : TypeId) : (Builtin.len_ #[t] ty #[.map (some mb)]).run P w = .ok (.int .i64 m.length) w := by
  have := World.ownsMap.len h ht ty
  have e : Maps.size (entsD m) = m.length := by simp [Maps.size, entsD]
  rw [e] at this
  exact this
end Go.Proofs.Ytlajejbglpggeaa

/-! Plain laws on rising rows of names: store, strike, look up, and how many bytes all have. No program in sight. -/
namespace Go.Proofs.Ytlajejbglpggeaa

def sizeR (row : List (Bs × Bs)) : Nat := (row.map (·.2.length)).sum

theorem lk_le : ∀ (row : List (Bs × Bs)) (k : Bs), ((lk row k).getD []).length ≤ sizeR row
  | [], k => by simp [lk]
  | e :: r, k => by
    have ih := lk_le r k
    rw [lk_cons]
    unfold sizeR at *
    simp only [List.map_cons, List.sum_cons]
    split
    · simp
    · omega

def Rising {α : Type} (m : List (Bs × α)) : Prop := m.Pairwise (fun a b => bytesBefore a.1 b.1 = true)

theorem before_irrefl : ∀ a : Bs, bytesBefore a a = false
  | [] => rfl
  | a :: r => by simp [bytesBefore, before_irrefl r]
theorem before_trans : ∀ {a b c : Bs}, bytesBefore a b = true → bytesBefore b c = true → bytesBefore a c = true
  | [], [], _, h, _ => by simp [bytesBefore] at h
  | [], _ :: _, [], _, h => by simp [bytesBefore] at h
  | [], _ :: _, _ :: _, _, _ => rfl
  | _ :: _, [], _, h, _ => by simp [bytesBefore] at h
  | _ :: _, _ :: _, [], _, h => by simp [bytesBefore] at h
  | a :: r, b :: s, c :: t, h, k => by
    simp only [bytesBefore, Bool.or_eq_true, decide_eq_true_eq, Bool.and_eq_true, beq_iff_eq] at *
    rcases h with h | ⟨rfl, h⟩
    · rcases k with k | ⟨rfl, k⟩
      · exact .inl (UInt8.lt_trans h k)
      · exact .inl h
    · rcases k with k | ⟨rfl, k⟩
      · exact .inl k
      · exact .inr ⟨rfl, before_trans h k⟩
theorem before_total : ∀ {a b : Bs}, a ≠ b → bytesBefore a b = true ∨ bytesBefore b a = true
  | [], [], h => absurd rfl h
  | [], _ :: _, _ => .inl rfl
  | _ :: _, [], _ => .inr rfl
  | a :: r, b :: s, h => by
    simp only [bytesBefore, Bool.or_eq_true, decide_eq_true_eq, Bool.and_eq_true, beq_iff_eq]
    by_cases e : a = b
    · subst e
      rcases before_total (a := r) (b := s) (fun e => h (by rw [e])) with h' | h'
      · exact .inl (.inr ⟨rfl, h'⟩)
      · exact .inr (.inr ⟨rfl, h'⟩)
    · rcases UInt8.lt_or_lt_of_ne e with h' | h'
      · exact .inl (.inl h')
      · exact .inr (.inl h')
theorem before_asymm {a b : Bs} (h : bytesBefore a b = true) : bytesBefore b a = false := by
  cases hb : bytesBefore b a
  · rfl
  · have := before_trans h hb; rw [before_irrefl] at this; cases this
theorem before_ne {a b : Bs} (h : bytesBefore a b = true) : a ≠ b := by rintro rfl; rw [before_irrefl] at h; cases h

section
variable {α : Type}

theorem mem_insK (x : Bs × α) : ∀ (m : List (Bs × α)) (y : Bs × α), y ∈ insK x m ↔ y = x ∨ y ∈ m
  | [], y => by simp [insK]
  | z :: r, y => by
    unfold insK
    split
    · simp
    · simp only [List.mem_cons, mem_insK x r y]
      constructor
      · rintro (h | h | h)
        · exact .inr (.inl h)
        · exact .inl h
        · exact .inr (.inr h)
      · rintro (h | h | h)
        · exact .inr (.inl h)
        · exact .inl h
        · exact .inr (.inr h)
theorem length_insK (x : Bs × α) : ∀ m : List (Bs × α), (insK x m).length = m.length + 1
  | [] => rfl
  | z :: r => by unfold insK; split <;> simp [length_insK x r]
theorem mem_delK {k : Bs} {m : List (Bs × α)} {y : Bs × α} : y ∈ delK k m ↔ y ∈ m ∧ y.1 ≠ k := by
  unfold delK; simp [List.mem_filter]

theorem rising_insK {x : Bs × α} : ∀ {m : List (Bs × α)}, Rising m → (∀ y ∈ m, y.1 ≠ x.1) → Rising (insK x m)
  | [], _, _ => by simp [insK, Rising]
  | z :: r, h, hn => by
    obtain ⟨h1, h2⟩ := List.pairwise_cons.1 h
    unfold insK
    split
    · rename_i hb
      exact List.pairwise_cons.2 ⟨fun y hy => (List.mem_cons.1 hy).elim (fun e => by rw [e]; exact hb) (fun hy => before_trans hb (h1 y hy)), h⟩
    · rename_i hb
      have hzx : bytesBefore z.1 x.1 = true := (before_total (hn z (by simp))).resolve_right (by simpa using hb)
      refine List.pairwise_cons.2 ⟨fun y hy => ?_, rising_insK h2 (fun y hy => hn y (by simp [hy]))⟩
      rcases (mem_insK x r y).1 hy with rfl | hy
      · exact hzx
      · exact h1 y hy
theorem rising_delK {k : Bs} {m : List (Bs × α)} (h : Rising m) : Rising (delK k m) := h.filter _
theorem rising_putK {k : Bs} {v : α} {m : List (Bs × α)} (h : Rising m) : Rising (putK k v m) :=
  rising_insK (rising_delK h) (fun _ hy => (mem_delK.1 hy).2)
theorem mem_putK {k : Bs} {v : α} {m : List (Bs × α)} {y : Bs × α} (h : y ∈ putK k v m) : y = (k, v) ∨ y ∈ m := by
  rcases (mem_insK _ _ _).1 h with h | h
  · exact .inl h
  · exact .inr (mem_delK.1 h).1

theorem delK_none : ∀ {m : List (Bs × α)} {k : Bs}, lk m k = none → delK k m = m
  | [], _, _ => rfl
  | e :: r, k, h => by
    rw [lk_cons] at h
    by_cases hk : (e.1 == k) = true
    · rw [if_pos hk] at h; cases h
    · rw [if_neg hk] at h
      unfold delK
      rw [List.filter_cons_of_pos (by simpa using hk)]
      exact congrArg (e :: ·) (delK_none h)
theorem delK_above : ∀ {m : List (Bs × α)} {k : Bs}, (∀ y ∈ m, y.1 ≠ k) → delK k m = m := by
  intro m k h
  unfold delK
  rw [List.filter_eq_self]
  intro y hy
  simpa using h y hy
theorem lk_none_iff : ∀ {m : List (Bs × α)} {k : Bs}, lk m k = none ↔ ∀ y ∈ m, y.1 ≠ k
  | [], k => by simp [lk]
  | e :: r, k => by
    rw [lk_cons]
    by_cases hk : (e.1 == k) = true
    · rw [if_pos hk]
      simp only [beq_iff_eq] at hk
      simp [hk]
    · rw [if_neg hk, lk_none_iff]
      simp only [beq_iff_eq] at hk
      simp [hk]
theorem lk_mem : ∀ {m : List (Bs × α)} {k : Bs} {v : α}, lk m k = some v → (k, v) ∈ m
  | [], k, v, h => by simp [lk] at h
  | e :: r, k, v, h => by
    rw [lk_cons] at h
    by_cases hk : (e.1 == k) = true
    · rw [if_pos hk] at h
      simp only [beq_iff_eq] at hk
      cases h
      subst hk
      exact List.mem_cons_self
    · rw [if_neg hk] at h
      exact List.mem_cons_of_mem _ (lk_mem h)
theorem lk_of_mem : ∀ {m : List (Bs × α)}, Rising m → ∀ {k : Bs} {v : α}, (k, v) ∈ m → lk m k = some v
  | [], _, k, v, h => by simp at h
  | e :: r, hr, k, v, h => by
    obtain ⟨h1, h2⟩ := List.pairwise_cons.1 hr
    rw [lk_cons]
    rcases List.mem_cons.1 h with rfl | h
    · simp
    · rw [if_neg (by simpa using before_ne (h1 _ h))]
      exact lk_of_mem h2 h

theorem lk_insK_same (x : Bs × α) : ∀ m : List (Bs × α), (∀ y ∈ m, y.1 ≠ x.1) → lk (insK x m) x.1 = some x.2
  | [], _ => by simp [insK, lk_cons]
  | z :: r, h => by
    unfold insK
    split
    · simp [lk_cons]
    · rw [lk_cons, if_neg (by simpa using h z (by simp))]
      exact lk_insK_same x r (fun y hy => h y (by simp [hy]))
theorem lk_insK_other (x : Bs × α) {k : Bs} (hk : x.1 ≠ k) : ∀ m : List (Bs × α), lk (insK x m) k = lk m k
  | [] => by simp [insK, lk_cons, hk]
  | z :: r => by
    unfold insK
    split
    · rw [lk_cons, if_neg (by simpa using hk)]
    · rw [lk_cons, lk_cons, lk_insK_other x hk r]
theorem lk_delK_same (k : Bs) (m : List (Bs × α)) : lk (delK k m) k = none := lk_none_iff.2 (fun _ hy => (mem_delK.1 hy).2)
theorem lk_delK_other {k k' : Bs} (hk : k ≠ k') : ∀ m : List (Bs × α), lk (delK k m) k' = lk m k'
  | [] => rfl
  | z :: r => by
    unfold delK
    by_cases h : z.1 = k
    · rw [List.filter_cons_of_neg (by simpa using h), lk_cons, if_neg (by rw [h]; simpa using hk)]
      exact lk_delK_other hk r
    · rw [List.filter_cons_of_pos (by simpa using h), lk_cons, lk_cons]
      split
      · rfl
      · exact lk_delK_other hk r
theorem lk_putK_same (k : Bs) (v : α) (m : List (Bs × α)) : lk (putK k v m) k = some v := lk_insK_same (k, v) _ (fun _ hy => (mem_delK.1 hy).2)
theorem lk_putK_other {k k' : Bs} (hk : k ≠ k') (v : α) (m : List (Bs × α)) : lk (putK k v m) k' = lk m k' := by
  unfold putK
  rw [lk_insK_other (k, v) hk, lk_delK_other hk]

theorem length_delK : ∀ {m : List (Bs × α)}, Rising m → ∀ k : Bs, (delK k m).length + (if (lk m k).isSome then 1 else 0) = m.length
  | [], _, k => by simp [delK, lk]
  | z :: r, h, k => by
    obtain ⟨h1, h2⟩ := List.pairwise_cons.1 h
    rw [lk_cons]
    by_cases hk : (z.1 == k) = true
    · rw [if_pos hk]
      simp only [beq_iff_eq] at hk
      subst hk
      have : delK z.1 (z :: r) = r := by
        unfold delK
        rw [List.filter_cons_of_neg (by simp)]
        exact delK_above (fun y hy => (before_ne (h1 y hy)).symm)
      rw [this]; simp
    · rw [if_neg hk]
      have := length_delK h2 k
      have e : delK k (z :: r) = z :: delK k r := by unfold delK; rw [List.filter_cons_of_pos (by simpa using hk)]
      rw [e]; simp only [List.length_cons]; omega
theorem length_putK {m : List (Bs × α)} (h : Rising m) (k : Bs) (v : α) : (putK k v m).length + (if (lk m k).isSome then 1 else 0) = m.length + 1 := by
  have := length_delK h k
  unfold putK
  rw [length_insK]; omega
theorem length_putK_le {m : List (Bs × α)} (h : Rising m) (k : Bs) (v : α) : (putK k v m).length ≤ m.length + 1 := by
  have := length_putK h k v; omega
theorem length_putK_some {m : List (Bs × α)} (h : Rising m) (k : Bs) (v : α) (hs : (lk m k).isSome = true) : (putK k v m).length = m.length := by
  have := length_putK h k v
  rw [if_pos hs] at this; omega
end

theorem sizeR_cons (e : Bs × Bs) (r : List (Bs × Bs)) : sizeR (e :: r) = e.2.length + sizeR r := by simp [sizeR]
theorem sizeR_insK (x : Bs × Bs) : ∀ m : List (Bs × Bs), sizeR (insK x m) = x.2.length + sizeR m
  | [] => by simp [insK, sizeR]
  | z :: r => by
    unfold insK
    split
    · rw [sizeR_cons]
    · rw [sizeR_cons, sizeR_insK x r, sizeR_cons]; omega
theorem sizeR_delK : ∀ {m : List (Bs × Bs)}, Rising m → ∀ k : Bs, sizeR (delK k m) + ((lk m k).getD []).length = sizeR m
  | [], _, k => by simp [delK, lk, sizeR]
  | z :: r, h, k => by
    obtain ⟨h1, h2⟩ := List.pairwise_cons.1 h
    rw [lk_cons]
    by_cases hk : (z.1 == k) = true
    · rw [if_pos hk]
      simp only [beq_iff_eq] at hk
      subst hk
      have : delK z.1 (z :: r) = r := by
        unfold delK
        rw [List.filter_cons_of_neg (by simp)]
        exact delK_above (fun y hy => (before_ne (h1 y hy)).symm)
      rw [this, sizeR_cons]; simp; omega
    · rw [if_neg hk]
      have := sizeR_delK h2 k
      have e : delK k (z :: r) = z :: delK k r := by unfold delK; rw [List.filter_cons_of_pos (by simpa using hk)]
      rw [e, sizeR_cons, sizeR_cons]; omega
theorem sizeR_putK {m : List (Bs × Bs)} (h : Rising m) (k v : Bs) : sizeR (putK k v m) + ((lk m k).getD []).length = sizeR m + v.length := by
  have := sizeR_delK h k
  unfold putK
  rw [sizeR_insK]; simp only; omega

/-! ### in step -/
theorem All2.insK {α β : Type} {R : Bs × α → Bs × β → Prop} (hR : ∀ a b, R a b → a.1 = b.1) {x : Bs × α} {y : Bs × β} (hxy : R x y) : ∀ {l : List (Bs × α)} {m : List (Bs × β)}, All2 R l m → All2 R (insK x l) (insK y m)
  | [], [], _ => ⟨hxy, trivial⟩
  | a :: l, b :: m, h => by
    unfold Ytlajejbglpggeaa.insK
    rw [hR _ _ hxy, hR _ _ h.1]
    split
    · exact ⟨hxy, h⟩
    · exact ⟨h.1, All2.insK hR hxy h.2⟩
  | [], _ :: _, h => h.elim
  | _ :: _, [], h => h.elim
theorem All2.delK {α β : Type} {R : Bs × α → Bs × β → Prop} (hR : ∀ a b, R a b → a.1 = b.1) {k : Bs} {l : List (Bs × α)} {m : List (Bs × β)} (h : All2 R l m) : All2 R (delK k l) (delK k m) :=
  All2.filter h (fun a b hab => by rw [hR _ _ hab])
theorem All2.keys {α β : Type} {R : Bs × α → Bs × β → Prop} (hR : ∀ a b, R a b → a.1 = b.1) : ∀ {l : List (Bs × α)} {m : List (Bs × β)}, All2 R l m → l.map (·.1) = m.map (·.1)
  | [], [], _ => rfl
  | a :: l, b :: m, h => by rw [List.map_cons, List.map_cons, hR _ _ h.1, All2.keys hR h.2]
  | [], _ :: _, h => h.elim
  | _ :: _, [], h => h.elim
end Go.Proofs.Ytlajejbglpggeaa

/-! A plain law, no program in sight: no rune of a text is outside '!' to '~' just if no byte is. -/
namespace Go.Proofs.Ytlajejbglpggeaa
open Go.RowKit Go.Proofs

def badRune (r : Nat) : Bool := decide (r < 33) || decide (126 < r)
def badByte (c : UInt8) : Bool := badRune c.toNat
def nameOK (l : List UInt8) : Bool := decide (1 ≤ l.length) && decide (l.length ≤ 80) && l.all (fun c => !badByte c)

theorem get!_of (s : ByteArray) (i : Nat) (h : i < s.size) : s.get! i = s[i]'h := by
  simp [ByteArray.get!, getElem!_pos, h]; rfl

theorem decode_ge (s : ByteArray) (pos : Nat) (h : 128 ≤ (s.get! pos).toNat) : 128 ≤ (Utf8.decode s pos).1 := by
  unfold Utf8.decode
  simp only [Nat.add_zero]
  rw [if_neg (by omega)]
  split
  · split
    · assumption
    · simp [Utf8.runeError]
  · split
    · split
      · rename_i h2; simp at h2; simp; omega
      · simp [Utf8.runeError]
    · split
      · split
        · rename_i h2; simp at h2; simp; omega
        · simp [Utf8.runeError]
      · simp [Utf8.runeError]

theorem idx_bad (s : ByteArray) : ∀ (f pos : Nat), s.size ≤ pos + f → (0 ≤ Lib.idxFuncFrom badRune true s f pos ↔ ∃ (i : Nat) (h : i < s.size), pos ≤ i ∧ badByte (s[i]'h) = true)
  | 0, pos, hf => by
    simp [Lib.idxFuncFrom]
    intro i h hp
    omega
  | f + 1, pos, hf => by
    unfold Lib.idxFuncFrom
    by_cases hp : pos < s.size
    · rw [if_pos hp]
      by_cases hb : (s[pos]'hp).toNat < 128
      · rw [decode_ascii s pos hp hb]
        simp only
        by_cases hq : badByte (s[pos]'hp) = true
        · have hq' : badRune (s[pos]'hp).toNat = true := hq
          rw [if_pos hq']
          exact ⟨fun _ => ⟨pos, hp, Nat.le_refl _, hq⟩, fun _ => by omega⟩
        · have hq' : ¬ badRune (s[pos]'hp).toNat = true := hq
          rw [if_neg hq', idx_bad s f (pos + 1) (by omega)]
          constructor
          · rintro ⟨i, h, h1, h2⟩
            exact ⟨i, h, by omega, h2⟩
          · rintro ⟨i, h, h1, h2⟩
            refine ⟨i, h, ?_, h2⟩
            rcases Nat.lt_or_ge pos i with h3 | h3
            · exact h3
            · obtain rfl : i = pos := by omega
              exact absurd h2 hq
      · have hd : 128 ≤ (Utf8.decode s pos).1 := decode_ge s pos (by rw [get!_of s pos hp]; omega)
        rw [if_pos (by simp [badRune]; omega)]
        refine ⟨fun _ => ⟨pos, hp, Nat.le_refl _, by simp [badByte, badRune]; omega⟩, fun _ => by omega⟩
    · rw [if_neg hp]
      simp
      intro i h h1
      omega

theorem idx_name (s : ByteArray) : decide (0 ≤ Lib.idxFunc badRune true s) = s.data.toList.any badByte := by
  rw [Bool.eq_iff_iff, decide_eq_true_eq, List.any_eq_true]
  unfold Lib.idxFunc
  rw [idx_bad s s.size 0 (by omega)]
  constructor
  · rintro ⟨i, h, _, hb⟩
    exact ⟨s[i]'h, by rw [Array.mem_toList_iff]; exact Array.getElem_mem (xs := s.data) h, hb⟩
  · rintro ⟨x, hx, hb⟩
    rw [Array.mem_toList_iff] at hx
    obtain ⟨i, h, e⟩ := Array.getElem_of_mem hx
    exact ⟨i, h, Nat.zero_le _, by show badByte (s.data[i]) = true; rw [e]; exact hb⟩
end Go.Proofs.Ytlajejbglpggeaa
