/-
  A map from texts to whatever values, read as a rising list: look-up, store, delete, length; over any program.
-/
import Derived.Test.YtgnigkghkldcfaaBase
namespace Go.Proofs.Ytgnigkghkldcfaa
open Go.RowKit Go.Proofs Go.Maps

abbrev Bs := List UInt8
abbrev strV (b : Bs) : Value := .string ⟨b.toArray⟩
def bytesV (l : Bs) : List Value := l.map fun c => .int .u8 (c.toNat : Int)

/-- A slice of bytes that reads as l. -/
def BytesAt (w : World) (v : Value) (l : Bs) : Prop := Sl w 1 v l.length (bytesV l)

/-- the map's elements are read as themselves -/
def heldR (v : Value) : Option (DataW Value × List MemPlace) := some (.held v, [])
def encE (e : Bs × Value) : Lit × DataW Value := (.string e.1, .held e.2)
def entsD (m : List (Bs × Value)) : DataW Value := .map (m.map encE)

section
variable {α : Type}
def lk (m : List (Bs × α)) (k : Bs) : Option α := (m.find? (fun e => e.1 == k)).map (·.2)
def insK (x : Bs × α) : List (Bs × α) → List (Bs × α)
  | [] => [x]
  | y :: r => if bytesBefore x.1 y.1 then x :: y :: r else y :: insK x r
def delK (k : Bs) (m : List (Bs × α)) : List (Bs × α) := m.filter (fun e => !(e.1 == k))
theorem lk_cons (e : Bs × α) (r : List (Bs × α)) (k : Bs) : lk (e :: r) k = if (e.1 == k) = true then some e.2 else lk r k := by
  unfold lk
  rw [List.find?_cons]
  cases e.1 == k <;> rfl
def putK (k : Bs) (v : α) (m : List (Bs × α)) : List (Bs × α) := insK (k, v) (delK k m)
end

theorem enc_ins (x : Bs × Value) : ∀ m : List (Bs × Value), (insK x m).map encE = DataW.insert (encE x) (m.map encE)
  | [] => rfl
  | y :: r => by
    have hb : (encE x).1.before (encE y).1 = bytesBefore x.1 y.1 := rfl
    unfold insK
    simp only [List.map_cons, DataW.insert, hb]
    split
    · rfl
    · rw [List.map_cons, enc_ins x r]

theorem enc_del (k : Bs) (m : List (Bs × Value)) : (delK k m).map encE = (m.map encE).filter (fun p => !p.1.sameKey (.string k)) := by
  rw [List.filter_map]; rfl

theorem entsD_put (k : Bs) (v : Value) (m : List (Bs × Value)) : entsD (putK k v m) = (entsD m).put (.string k) (.held v) := by
  unfold entsD putK DataW.put
  rw [enc_ins, enc_del]; rfl

theorem entsD_del (k : Bs) (m : List (Bs × Value)) : entsD (delK k m) = (entsD m).del (.string k) := by
  unfold entsD DataW.del
  rw [enc_del]

theorem entsD_at (m : List (Bs × Value)) (k : Bs) (z : Value) : (entsD m).atKey (.string k) (.held z) = .held ((lk m k).getD z) := by
  unfold entsD DataW.atKey lk
  simp only [List.find?_map]
  have : ((fun p : Lit × DataW Value => p.1.sameKey (.string k)) ∘ encE) = fun e => e.1 == k := rfl
  rw [this]
  cases m.find? (fun e => e.1 == k) <;> rfl

theorem entsD_has (m : List (Bs × Value)) (k : Bs) : Maps.has (entsD m) (.string k) = (lk m k).isSome := by
  unfold entsD lk Maps.has
  simp only [List.any_map]
  have : ((fun p : Lit × DataW Value => p.1.sameKey (.string k)) ∘ encE) = fun e => e.1 == k := rfl
  rw [this]
  rw [Option.isSome_map, List.isSome_find?]

variable {P : Program} {kt : TypeId}

def MapP (P : Program) (kt : TypeId) (w : World) (mb : Nat) (m : List (Bs × Value)) : Prop := w.ownsMap P kt heldR mb m.length (entsD m)

theorem MapP.keep {F : Nat → Prop} {w w' : World} {mb : Nat} {m : List (Bs × Value)} (h : MapP P kt w mb m) (k : Keep F w w') (hF : ¬ F mb) : MapP P kt w' mb m := by
  obtain ⟨es, clock, hb, r⟩ := h
  exact ⟨es, clock, k.heap hb hF, r⟩
theorem MapP.obj {w : World} {mb : Nat} {m : List (Bs × Value)} (h : MapP P kt w mb m) : ∃ es clock, w.heap[mb]? = some (.map es clock) := by
  obtain ⟨es, clock, hb, r⟩ := h
  exact ⟨es, clock, hb⟩
theorem MapP.lt {w : World} {mb : Nat} {m : List (Bs × Value)} (h : MapP P kt w mb m) : mb < w.heap.size := let ⟨_, _, hb⟩ := h.obj; lt_blk hb
theorem MapP.ne {w : World} {mb : Nat} {m : List (Bs × Value)} (h : MapP P kt w mb m) {b : Nat} {cs : Array Value} {t : TypeId} {f : Nat × Nat} (hb : w.heap[b]? = some (.cells cs t f)) : mb ≠ b := by
  obtain ⟨es, clock, hm⟩ := h.obj
  rintro rfl
  rw [hm] at hb; cases hb
theorem MapP.made (w : World) : MapP P kt (w.alloc (.map #[] 0)) w.heap.size [] := World.ownsMap_made w P kt heldR

/-- the bound on the entries is their number -/
theorem owns_exact {w : World} {mb n : Nat} {m : List (Bs × Value)} (h : w.ownsMap P kt heldR mb n (entsD m)) : MapP P kt w mb m := by
  obtain ⟨es, clock, hb, F, hs, hD⟩ := h
  refine ⟨es, clock, hb, F, ?_, hD⟩
  have : (m.map encE).length = es.size := by
    have e : m.map encE = (es.toList.map (WideElems.rg P kt heldR)).foldr DataW.insert [] := by
      simp only [entsD, DataW.map.injEq] at hD; exact hD
    rw [e, length_sorted]; simp
  rw [List.length_map] at this
  omega

section
variable (hk : P.underlying kt = some .string) {t e : TypeId} (ht : P.underlying t = some (.map kt e)) {w : World} {mb : Nat} {m : List (Bs × Value)} (h : MapP P kt w mb m) (s : ByteArray) (hs : s.size ≤ maxLen)
include hk ht h hs

theorem MapP.look {z : Value} (hz : (zeroValue e).run P w = .ok z w) : (Instr.lookup t (.map (some mb)) (.string s) false).run P w = .ok ((lk m s.data.toList).getD z) w := by
  obtain ⟨v, ps, hrun, hv⟩ := h.lookup (zd := .held z) (zp := []) (string_keyed hk) ht hz rfl (WideMaps.keyOf_string_mk hk hs)
  rw [entsD_at] at hv
  cases hv
  exact hrun

theorem MapP.look_ok {z : Value} (hz : (zeroValue e).run P w = .ok z w) : (Instr.lookup t (.map (some mb)) (.string s) true).run P w = .ok (.tuple #[(lk m s.data.toList).getD z, .bool (lk m s.data.toList).isSome]) w := by
  obtain ⟨v, ps, hrun, hv⟩ := World.ownsMap.look_ok h (zd := .held z) (zp := []) (string_keyed hk) ht hz rfl (WideMaps.keyOf_string_mk hk hs)
  rw [entsD_at] at hv
  cases hv
  rw [entsD_has] at hrun
  exact hrun

theorem MapP.update (hn : m.length < maxLen) (v : Value) : ∃ w', (Instr.mapUpdate t (.map (some mb)) (.string s) v).run P w = .ok () w' ∧ MapP P kt w' mb (putK s.data.toList v m) ∧ Keep (· = mb) w w' := by
  obtain ⟨w', hrun, h1, h2⟩ := World.ownsMap.update h (d := .held v) (ps := []) (string_keyed hk) ht hn (WideMaps.keyOf_string_mk hk hs) (rfl : heldR v = _)
  refine ⟨w', hrun, owns_exact (by rw [entsD_put]; exact h1), (Keep.of_grownBy h2).mono (fun i _ e => by cases e; rfl)⟩

theorem MapP.drop (ty : TypeId) : ∃ w', (Builtin.delete_ #[t, kt] ty #[.map (some mb), .string s]).run P w = .ok (.tuple #[]) w' ∧ MapP P kt w' mb (delK s.data.toList m) ∧ Keep (· = mb) w w' := by
  obtain ⟨w', hrun, h1, h2⟩ := World.ownsMap.drop h (string_keyed hk) ht (WideMaps.keyOf_string_mk hk hs) ty
  exact ⟨w', hrun, owns_exact (by rw [entsD_del]; exact h1), (Keep.of_grownBy h2.grown).mono (fun i _ e => by cases e; rfl)⟩
end

theorem MapP.len {t e : TypeId} (ht : P.underlying t = some (.map kt e)) {w : World} {mb : Nat} {m : List (Bs × Value)} (h : MapP P kt w mb m) (ty : TypeId) : (Builtin.len_ #[t] ty #[.map (some mb)]).run P w = .ok (.int .i64 m.length) w := by
  have := World.ownsMap.len h ht ty
  have e : Maps.size (entsD m) = m.length := by simp [Maps.size, entsD]
  rw [e] at this
  exact this
end Go.Proofs.Ytgnigkghkldcfaa
