/-
  The object store: what its blocks hold; the contract of op.
-/
import Derived.Test.YtlajejbglpggeaaGuard
import Derived.Test.YtlajejbglpggeaaBase0
import Derived.Test.YtlajejbglpggeaaShelf
import Derived.Deep.QuietTactic
import Derived.BigQuiet
import Derived.Laws.AppendOwnNone
import Derived.Deep.LoopGhost
import Derived.Deep.Light

/-! The object store: what its blocks hold; the contract of op. -/
namespace Go.Proofs.Ytlajejbglpggeaa
open Go.RowKit Go.Proofs

abbrev MapAt (w : World) (mb : Nat) (m : List (Bs × Value)) : Prop := MapP Try.prog 9 w mb m

/-- What a store is. -/
structure OS where
  row : List (Bs × Bs)
  quota : Int
  ops : Int
  left : Int
  faults : List Bool

/-- Where it lies. -/
structure OG where
  mb : Nat
  ents : List (Bs × Value)
  fuse : Value
  faults : Value

/-- What holds of every store. -/
structure OS.Ok (s : OS) : Prop where
  quota : 0 ≤ s.quota ∧ s.quota ≤ 9223372036854775807
  size : (sizeR s.row : Int) ≤ s.quota
  ops : 0 ≤ s.ops ∧ s.ops ≤ 4611686018427387904
  rising : Rising s.row
  names : ∀ r ∈ s.row, nameOK r.1 = true ∧ r.2.length ≤ 1048576
  many : s.row.length ≤ 4096

def FuseIs (w : World) (v : Value) (left : Int) : Prop := (v = .pointer none ∧ left = -1) ∨ ∃ fb, v = .pointer (some ⟨fb, 0, none⟩) ∧ FuseAt w fb left

theorem FuseIs.keep {F : Nat → Prop} {w w' : World} {v : Value} {n : Int} (h : FuseIs w v n) (k : Keep F w w') (hF : ∀ fb, v = .pointer (some ⟨fb, 0, none⟩) → ¬ F fb) : FuseIs w' v n := by
  rcases h with h | ⟨fb, e, h⟩
  · exact .inl h
  · exact .inr ⟨fb, e, h.keep k (hF fb e)⟩

abbrev EntR (w : World) (e : Bs × Value) (r : Bs × Bs) : Prop := e.1 = r.1 ∧ BytesAt w e.2 r.2
structure ObjAt (w : World) (sb : Nat) (G : OG) (s : OS) : Prop where
  blk : w.heap[sb]? = some (.cells #[.map (some G.mb), .int .i64 s.quota, .int .i64 (sizeR s.row), .int .i64 s.ops, G.fuse, G.faults] 59 (0, 0))
  map : MapAt w G.mb G.ents
  rows : All2 (EntR w) G.ents s.row
  fuse : FuseIs w G.fuse s.left
  faults : Sl w 1 G.faults s.faults.length (s.faults.map .bool)
  ok : s.Ok

def OS.code (s : OS) : Int := if s.faults.head? = some true then 30 else 0
def OS.op (s : OS) : OS := { s with left := decF s.left, ops := s.ops + 1, faults := s.faults.tail }


/-- Blocks of other kinds than bytes. -/
theorem BytesAt.ne_cells {w : World} {v : Value} {l : Bs} (h : BytesAt w v l) {b : Nat} {cs : Array Value} {t : TypeId} {f : Nat × Nat} (hb : w.heap[b]? = some (.cells cs t f)) (hcs : ∀ (x : Int) (i : Nat), cs[i]? ≠ some (.int .u8 x)) :
    0 < l.length → vblk v ≠ some b := by
  refine Sl.ne_cells h (by decide) hb ?_
  intro x hx i
  cases l with
  | nil => simp [bytesV] at hx
  | cons c l => simp [bytesV] at hx; subst hx; exact hcs _ _

/-- the entries and the rows in step: look-up -/
theorem lk_step {w : World} : ∀ {m : List (Bs × Value)} {row : List (Bs × Bs)}, All2 (EntR w) m row → ∀ k, (lk m k = none ∧ lk row k = none) ∨ ∃ v l, lk m k = some v ∧ lk row k = some l ∧ BytesAt w v l
  | [], [], _, k => .inl ⟨rfl, rfl⟩
  | a :: l, b :: r, h, k => by
    rw [lk_cons, lk_cons, ← h.1.1]
    by_cases hk : (a.1 == k) = true
    · rw [if_pos hk, if_pos hk]
      exact .inr ⟨a.2, b.2, rfl, rfl, h.1.2⟩
    · rw [if_neg hk, if_neg hk]
      exact lk_step h.2 k
  | [], _ :: _, h, _ => h.elim
  | _ :: _, [], h, _ => h.elim

theorem op_blow (sb : Nat) (G : OG) (s : OS) (w : World) (h : ObjAt w sb G s) (hl : s.left = 0) :
    ∃ fb, G.fuse = .pointer (some ⟨fb, 0, none⟩) ∧ Calls Try.prog 43 #[.pointer (some ⟨sb, 0, none⟩)] w fun e w' => e = .panicked (blowChain fb) ∧ w = w' := by
  rcases h.fuse with ⟨_, h1⟩ | ⟨fb, hfb, hF⟩
  · omega
  · refine ⟨fb, hfb, ?_⟩
    rw [hl] at hF
    have c4 : w.cell? ⟨sb, 4, none⟩ = some (.pointer (some ⟨fb, 0, none⟩)) := by rw [cell_blk h.blk]; simp [hfb]
    clear h
    go_enter Try.func43, Try.ntmps43
    go_wp2_with (go_at_call 61; refine (step_zero _ _ hF).mono ?_; rintro e w' ⟨rfl, rfl⟩)
    exact ⟨rfl, rfl, rfl⟩

end Go.Proofs.Ytlajejbglpggeaa

/-! object.right: whether a text is a name. -/
namespace Go.Proofs.Ytlajejbglpggeaa
open Go.RowKit Go.Proofs Go.Lib

theorem right1_pred (w : World) : PredAt Try.prog 63 #[] encR badRune w := fun W r _ => by
  unfold FnGives
  by_cases h1 : r < 33 <;> by_cases h2 : 126 < r
  all_goals
    have z1 : (r : Int) < 33 ↔ r < 33 := by omega
    have z2 : (126 : Int) < (r : Int) ↔ 126 < r := by omega
    go_enter Try.func63, Try.ntmps63
    go_wp2
    all_goals first | (exfalso; omega) | (go_ret; exact ⟨by simp [badRune, h1, h2], 0, rfl⟩)

def rightCode (s : ByteArray) : Int := if nameOK s.data.toList then 0 else 37

def RightPost (s : ByteArray) (w : World) (e : Ending) (w' : World) : Prop := e = .returned (.int .i64 (rightCode s)) ∧ Below w.heap.size w w'

theorem right_any (s : ByteArray) (w : World) : Calls Try.prog 46 #[.string s] w (RightPost s w) := by
  have hC := Try.strings_ContainsFunc 63 #[] (enters_of Try.func63 (by kernel_rfl) rfl) badRune s w (right1_pred w)
  rw [idx_name] at hC
  have hsz : s.data.toList.length = s.size := by simp
  obtain ⟨b, hb⟩ : ∃ b, b = s.data.toList.any badByte := ⟨_, rfl⟩
  rw [← hb] at hC
  have hn : nameOK s.data.toList = (decide (1 ≤ s.size) && decide (s.size ≤ 80) && !b) := by
    unfold nameOK
    rw [hsz, hb, List.all_eq_not_any_not]
    simp
  by_cases h0 : s.size = 0
  · have : s = ⟨#[]⟩ := by
      cases s with | mk d => exact congrArg ByteArray.mk (Array.eq_empty_of_size_eq_zero h0)
    have H := Lib.hid hn; clear hn hb hsz h0 hC
    subst this
    go_enter Try.func46, Try.ntmps46
    go_wp2
    go_ret
    exact ⟨by rw [rightCode]; rfl, Below.refl _ _⟩
  · have h0' : s.toList.isEmpty = false := by
      rw [Lib.toList_data]
      cases hl : s.data.toList with
      | nil => rw [hl] at hsz; exact absurd hsz.symm h0
      | cons x r => rfl
    by_cases h1 : s.size ≤ 80
    · have h1' : ¬ (80 : Int) < s.size := by omega
      have H := Lib.hid hn; clear hn hb hsz
      have HC := Lib.hid hC; clear hC
      cases b
      all_goals
        go_enter Try.func46, Try.ntmps46
        go_wp2_with (go_at_call 62; refine HC.out.mono ?_; rintro e w' ⟨rfl, hbl⟩)
        go_ret
        refine ⟨?_, hbl⟩
        rw [rightCode, H.out, decide_eq_true (by omega : 1 ≤ s.size), decide_eq_true h1]
        rfl
    · have h1' : (80 : Int) < s.size := by omega
      have H := Lib.hid hn; clear hn hb hsz hC
      go_enter Try.func46, Try.ntmps46
      go_wp2
      go_ret
      refine ⟨?_, Below.refl _ _⟩
      rw [rightCode, H.out, decide_eq_false h1]
      simp
end Go.Proofs.Ytlajejbglpggeaa

/-! object.room: whether there is room for a thing. -/
namespace Go.Proofs.Ytlajejbglpggeaa
open Go.RowKit Go.Proofs Go.Lib

theorem zero_bytes (w : World) : (zeroValue 27).run Try.prog w = .ok (.slice none 0 0) w := by kernel_rfl

def OS.roomCode (s : OS) (name b : Bs) : Int :=
  if b.length > 1048576 then 2
  else if (b.length : Int) > s.quota - sizeR s.row + ((lk s.row name).getD []).length then 31
  else if (lk s.row name).isNone ∧ s.row.length = 4096 then 3 else 0

def CodePost (c : Int) (w : World) (e : Ending) (w' : World) : Prop := e = .returned (.int .i64 c) ∧ ∃ q, w' = w.drewN q

set_option maxRecDepth 100000 in
set_option maxHeartbeats 1000000 in
theorem room_any (sb : Nat) (G : OG) (s : OS) (w : World) (hS : ObjAt w sb G s) (nm : ByteArray) (hnm : nm.size ≤ maxLen) (bv : Value) (b : Bs) (hb : BytesAt w bv b) (hbl : b.length ≤ 140737488355328) :
    Calls Try.prog 48 #[.pointer (some ⟨sb, 0, none⟩), .string nm, bv] w (CodePost (s.roomCode nm.data.toList b) w) := by
  obtain ⟨a, c, rfl⟩ : ∃ a c, bv = .slice a b.length c := let ⟨_, a, c, e, _⟩ := hb; ⟨a, c, e⟩
  have c0 : w.cell? ⟨sb, 0, none⟩ = some (.map (some G.mb)) := by rw [cell_blk hS.blk]; simp
  have c1 : w.cell? ⟨sb, 1, none⟩ = some (.int .i64 s.quota) := by rw [cell_blk hS.blk]; simp
  have c2 : w.cell? ⟨sb, 2, none⟩ = some (.int .i64 (sizeR s.row)) := by rw [cell_blk hS.blk]; simp
  have hq := hS.ok.quota
  have hsz := hS.ok.size
  have hlen : ∀ (ty : TypeId) (q : Nat), (Builtin.len_ #[56] ty #[.map (some G.mb)]).run Try.prog (w.drewN q) = .ok (.int .i64 G.ents.length) (w.drewN q) := fun ty q => MapP.len (P := Try.prog) Try.underlying56 (MapP.keep hS.map ((Keep.refl (fun _ => False) w).drewN q) (fun e => e)) ty
  have hlook := MapP.look_ok Try.underlying9 Try.underlying56 hS.map nm hnm (zero_bytes w)
  have hrl : G.ents.length = s.row.length := hS.rows.length
  rw [hrl] at hlen
  have hm := hS.ok.many
  -- what the look-up finds: a slice of as many bytes
  obtain ⟨a2, n2, c2', t, hl1, hl2, hn2, ht⟩ : ∃ a2 n2 c2' t, (lk G.ents nm.data.toList).getD (.slice none 0 0) = .slice a2 n2 c2' ∧ (lk G.ents nm.data.toList).isSome = t ∧ n2 = ((lk s.row nm.data.toList).getD []).length ∧ t = (lk s.row nm.data.toList).isSome := by
    rcases lk_step hS.rows nm.data.toList with ⟨h1, h2⟩ | ⟨v, l, h1, h2, h3⟩
    · exact ⟨none, 0, 0, false, by rw [h1]; rfl, by rw [h1]; rfl, by rw [h2]; rfl, by rw [h2]; rfl⟩
    · obtain ⟨_, a3, c3, e3, _⟩ := h3
      exact ⟨a3, l.length, c3, true, by rw [h1, ← e3]; rfl, by rw [h1]; rfl, by rw [h2]; rfl, by rw [h2]; rfl⟩
  rw [hl1, hl2] at hlook
  have hn4 : n2 ≤ sizeR s.row := by rw [hn2]; exact lk_le _ _
  have hn3 : n2 ≤ 1048576 := by
    rw [hn2]
    cases hlk : lk s.row nm.data.toList with
    | none => simp
    | some l =>
      unfold lk at hlk
      simp only [Option.map_eq_some_iff] at hlk
      obtain ⟨e, he, rfl⟩ := hlk
      exact (hS.ok.names e (List.mem_of_find?_eq_some he)).2
  have hc : s.roomCode nm.data.toList b = if b.length > 1048576 then 2 else if (b.length : Int) > s.quota - sizeR s.row + n2 then 31 else if t = false ∧ s.row.length = 4096 then 3 else 0 := by
    unfold OS.roomCode
    rw [← hn2, ht]
    cases lk s.row nm.data.toList <;> simp
  obtain ⟨Z, hZ⟩ : ∃ Z : Nat, Z = sizeR s.row := ⟨_, rfl⟩
  obtain ⟨L, hL⟩ : ∃ L : Nat, L = s.row.length := ⟨_, rfl⟩
  rw [← hZ] at hc c2 hsz hn4
  rw [← hL] at hc hlen hm
  have HC := Lib.hid hc; clear hc
  have hw1 : IntKind.i64.wrap (s.quota - Z) = s.quota - Z := IntWalk.i64_in _ (by omega)
  have hw2 : IntKind.i64.wrap (s.quota - Z + n2) = s.quota - Z + n2 := IntWalk.i64_in _ (by omega)
  clear hl1 hl2 hn2 ht hrl hZ hL hS hb
  by_cases h1 : (1048576 : Int) < b.length
  · go_enter Try.func48, Try.ntmps48
    go_wp2
    go_ret
    exact ⟨by rw [HC.out, if_pos (by omega)]; rfl, 0, rfl⟩
  · by_cases h2 : s.quota - Z + n2 < b.length
    · go_enter Try.func48, Try.ntmps48
      go_wp2
      go_quiet (fail)
      go_wp2
      go_ret
      exact ⟨by rw [HC.out, if_neg (by omega), if_pos (by omega)]; rfl, _, rfl⟩
    · cases t with
      | true =>
        go_enter Try.func48, Try.ntmps48
        go_wp2
        go_quiet (fail)
        go_wp2
        go_ret
        exact ⟨by rw [HC.out, if_neg (by omega), if_neg (by omega), if_neg (by simp)]; rfl, _, rfl⟩
      | false =>
        by_cases h3 : L = 4096
        · have h3' : ((L : Int) == 4096) = true := by simp; omega
          have H3 := Lib.hid h3; clear h3
          go_enter Try.func48, Try.ntmps48
          go_wp2
          go_quiet (fail)
          go_wp2
          go_ret
          exact ⟨by rw [HC.out, if_neg (by omega), if_neg (by omega), if_pos (by simp [H3.out])]; rfl, _, rfl⟩
        · have h3' : ((L : Int) == 4096) = false := by simp; omega
          go_enter Try.func48, Try.ntmps48
          go_wp2
          go_quiet (fail)
          go_wp2
          go_ret
          exact ⟨by rw [HC.out, if_neg (by omega), if_neg (by omega), if_neg (fun e => h3 e.2)]; rfl, _, rfl⟩
end Go.Proofs.Ytlajejbglpggeaa

/-! slices.Clone of bytes, and of bools: a slice that reads the same, in new memory. -/
namespace Go.Proofs.Ytlajejbglpggeaa
open Go.RowKit Go.Proofs Go.Lib

theorem info_byte : (Try.prog.info? 5).map (fun i => (i.zero, i.size, i.bytes)) = some (some (.int .u8 0), 1, 1) := by kernel_rfl
theorem info_bool : (Try.prog.info? 4).map (fun i => (i.zero, i.size, i.bytes)) = some (some (.bool false), 1, 1) := by kernel_rfl

/-- A new slice that reads as xs; nothing that was there has turned. -/
def Fresh (k : Nat) (xs : List Value) (n : Nat) (w : World) (e : Ending) (w' : World) : Prop :=
  ∃ v, e = .returned v ∧ Sl w' k v n xs ∧ (∀ b, vblk v = some b → w.heap.size ≤ b) ∧ Below w.heap.size w w'

theorem bytesV_length (l : Bs) : (bytesV l).length = l.length * 1 := by simp [bytesV]
theorem bytesV_one (l : Bs) : ∀ u ∈ bytesV l, u.oneCell' = true := by intro u hu; simp [bytesV] at hu; obtain ⟨c, _, rfl⟩ := hu; rfl
theorem boolsV_one (l : List Bool) : ∀ u ∈ l.map Value.bool, u.oneCell' = true := by intro u hu; simp at hu; rcases hu with ⟨_, rfl⟩ | ⟨_, rfl⟩ <;> rfl

/-- what the append leaves, as the caller wants it -/
theorem fresh_of_append {k : Nat} {xs : List Value} {n : Nat} {w w1 : World} {t e : TypeId} {v' : Value} (hown : w1.ownsRow w.heap.size e k v' (0 + n) ([] ++ xs)) (hg : (w.alloc (.cells #[] t)).grownBy w1 (some w.heap.size)) :
    Sl w1 k v' n xs ∧ (∀ b, vblk v' = some b → w.heap.size ≤ b) ∧ Below w.heap.size w w1 := by
  rw [Nat.zero_add, List.nil_append] at hown
  obtain ⟨h1, h2⟩ := Sl.of_owns hown
  exact ⟨h1, h2, ((Below.refl _ w).alloc (Nat.le_refl _) _).grown hg (by simp) (fun k e => by cases e; exact Nat.le_refl _)⟩

/-- A new slice of bytes of the call's own. -/
def FreshB (l : Bs) (w : World) (e : Ending) (w' : World) : Prop := ∃ v, e = .returned v ∧ w'.ownsRow w.heap.size 5 1 v l.length (bytesV l) ∧ Below w.heap.size w w'

theorem fresh_own {k : Nat} {xs : List Value} {n : Nat} {w w1 : World} {t e : TypeId} {v' : Value} (hown : w1.ownsRow w.heap.size e k v' (0 + n) ([] ++ xs)) (hg : (w.alloc (.cells #[] t)).grownBy w1 (some w.heap.size)) :
    w1.ownsRow w.heap.size e k v' n xs ∧ Below w.heap.size w w1 := by
  rw [Nat.zero_add, List.nil_append] at hown
  exact ⟨hown, ((Below.refl _ w).alloc (Nat.le_refl _) _).grown hg (by simp) (fun k e => by cases e; exact Nat.le_refl _)⟩

theorem cloneB_own (w : World) (v : Value) (l : Bs) (hB : BytesAt w v l) (hl : l.length ≤ 140737488355328) :
    Calls Try.prog 49 #[v] w (FreshB l w) := by
  have q := Lib.run_eql_slice_nil (P := Try.prog)
  obtain ⟨i0, hi, hz0, hz1, hz2⟩ := info_parts info_byte
  obtain ⟨a, c, rfl⟩ : ∃ a c, v = .slice a l.length c := let ⟨_, a, c, e, _⟩ := hB; ⟨a, c, e⟩
  cases a with
  | none =>
    have h0 : l.length = 0 := by
      obtain ⟨_, a, c', e, h1, h2, h3, h4⟩ := hB
      cases e
      have := h3 rfl
      omega
    go_enter Try.func49, Try.ntmps49
    go_wp2
    go_ret
    exact ⟨_, rfl, by rw [h0, List.eq_nil_of_length_eq_zero h0]; exact World.ownsRow_nil _ _ _ _, Below.refl _ _⟩
  | some a =>
    have hcells := fun (j : Nat) (u : Value) (hu : (bytesV l)[j]? = some u) => (World.cell?_of_block (w' := w.alloc (.cells #[] 5)) (Below.heap_alloc _ _ _ (World.block_lt_of_cell? w _ (Sl.cells hB j u hu)))).trans (Sl.cells hB j u hu)
    have H := Lib.hid hB; clear hB
    have HC := Lib.hid hcells; clear hcells
    go_enter Try.func49, Try.ntmps49
    go_wp2_with (at_builtin; refine wpList_append_own _ rfl _ _ 27 rfl w.heap.size 5 i0 (.int .u8 0) 1 1 Try.underlying27 hi hz0 hz1 hz2 rfl (by decide) _ _ _ rfl (World.ownsRow_made w #[] 0 (Nat.le_refl _) (Nat.zero_le _) rfl) a l.length c (bytesV l) rfl (bytesV_length l) HC.out (bytesV_one l) (by unfold maxLen; omega) (by omega) (by simp) ?_; intro v' w1 hown hg hnil; have hr := fresh_own hown hg; clear hown hg)
    go_ret
    exact ⟨_, rfl, hr⟩

theorem cloneB_any (w : World) (v : Value) (l : Bs) (hB : BytesAt w v l) (hl : l.length ≤ 140737488355328) :
    Calls Try.prog 49 #[v] w (Fresh 1 (bytesV l) l.length w) := by
  refine (cloneB_own w v l hB hl).mono ?_
  rintro e w' ⟨v', rfl, ho, hb⟩
  obtain ⟨h1, h2⟩ := Sl.of_owns ho
  exact ⟨v', rfl, h1, h2, hb⟩

theorem cloneL_any (w : World) (v : Value) (l : List Bool) (hB : Sl w 1 v l.length (l.map .bool)) (hl : l.length ≤ 140737488355328) :
    Calls Try.prog 35 #[v] w (Fresh 1 (l.map .bool) l.length w) := by
  have q := Lib.run_eql_slice_nil (P := Try.prog)
  obtain ⟨i0, hi, hz0, hz1, hz2⟩ := info_parts info_bool
  obtain ⟨a, c, rfl⟩ : ∃ a c, v = .slice a l.length c := let ⟨_, a, c, e, _⟩ := hB; ⟨a, c, e⟩
  cases a with
  | none =>
    have h0 : l.length = 0 := by
      obtain ⟨_, a, c', e, h1, h2, h3, h4⟩ := hB
      cases e
      have := h3 rfl
      omega
    go_enter Try.func35, Try.ntmps35
    go_wp2
    go_ret
    exact ⟨_, rfl, by rw [h0, List.eq_nil_of_length_eq_zero h0]; exact Sl.nil _ _, fun b hb => by simp [vblk] at hb, Below.refl _ _⟩
  | some a =>
    have hcells := fun (j : Nat) (u : Value) (hu : (l.map Value.bool)[j]? = some u) => (World.cell?_of_block (w' := w.alloc (.cells #[] 4)) (Below.heap_alloc _ _ _ (World.block_lt_of_cell? w _ (Sl.cells hB j u hu)))).trans (Sl.cells hB j u hu)
    have H := Lib.hid hB; clear hB
    have HC := Lib.hid hcells; clear hcells
    go_enter Try.func35, Try.ntmps35
    go_wp2_with (at_builtin; refine wpList_append_own _ rfl _ _ 42 rfl w.heap.size 4 i0 (.bool false) 1 1 Try.underlying42 hi hz0 hz1 hz2 rfl (by decide) _ _ _ rfl (World.ownsRow_made w #[] 0 (Nat.le_refl _) (Nat.zero_le _) rfl) a l.length c (l.map .bool) rfl (by simp) HC.out (boolsV_one l) (by unfold maxLen; omega) (by omega) (by simp) ?_; intro v' w1 hown hg hnil; have hr := fresh_of_append hown hg; clear hown hg)
    go_ret
    exact ⟨_, rfl, hr⟩
end Go.Proofs.Ytlajejbglpggeaa

/-! guard.All: the steps, one by one, until one has an error: over whatever the steps' own calls come to. -/
namespace Go.Proofs.Ytlajejbglpggeaa
open Go.RowKit Go.Proofs Go.Lib

/-- A function value of the program's. -/
structure Clo where
  g : Nat
  first : Array Value
  cap : Array Value
def Clo.val (c : Clo) : Value := .func (.func c.g) c.first c.cap
def Enters (P : Program) (g : Nat) : Prop := ∀ args w, (callFunc g args).run P w = .ok (.enter g args) w

def Lies (cs : List Clo) (b o : Nat) (w : World) : Prop := ∀ j c', cs[j]? = some c' → w.cell? ⟨b, o + j, none⟩ = some c'.val

def AllRun (b o : Nat) (cs : List Clo) (Q : Ending → World → Prop) : List Clo → Nat → World → Prop
  | [], i, w => Q (.returned (.tuple #[.int .i64 i, .int .i64 0])) w
  | c :: r, i, w => Calls Try.prog c.g (c.first ++ c.cap) w fun e w' =>
      (∃ n : Int, e = .returned (.int .i64 n) ∧ n ≠ 0 ∧ Q (.returned (.tuple #[.int .i64 i, .int .i64 n])) w') ∨
      (e = .returned (.int .i64 0) ∧ Lies cs b o w' ∧ AllRun b o cs Q r (i + 1) w') ∨
      (∃ ch, e = .panicked ch ∧ Q (.panicked ch) w')

theorem allRun_cons {b o : Nat} {cs : List Clo} {Q : Ending → World → Prop} {g : Nat} {first cap args : Array Value} {r : List Clo} {i : Nat} {w : World} (ha : first ++ cap = args) (h : Calls Try.prog g args w fun e w' =>
      (∃ n : Int, e = .returned (.int .i64 n) ∧ n ≠ 0 ∧ Q (.returned (.tuple #[.int .i64 i, .int .i64 n])) w') ∨
      (e = .returned (.int .i64 0) ∧ Lies cs b o w' ∧ AllRun b o cs Q r (i + 1) w') ∨
      (∃ ch, e = .panicked ch ∧ Q (.panicked ch) w')) : AllRun b o cs Q (⟨g, first, cap⟩ :: r) i w := by
  subst ha; exact h

theorem gall_any (cs : List Clo) (hE : ∀ c ∈ cs, Enters Try.prog c.g) (b o cap : Nat) (w : World) (hL : Lies cs b o w) (hn : cs.length ≤ 1000) (Q : Ending → World → Prop) (hR : AllRun b o cs Q cs 0 w) :
    Calls Try.prog 44 #[.slice (some ⟨b, o, none⟩) cs.length cap] w Q := by
  go_enter Try.func44, Try.ntmps44
  go_wp2
  go_loopg [9] cs.length (fun g v9 wr => ∃ k : Nat, k ≤ cs.length ∧ g = cs.length - k ∧ v9 = .int .i64 k ∧ Lies cs b o wr ∧ AllRun b o cs Q (cs.drop k) k wr)
  case atStart => exact ⟨0, Nat.zero_le _, rfl, rfl, hL, hR⟩
  case round =>
    obtain ⟨k, hk, hg, rfl, hLr, hRr⟩ := hrel
    have HG := Lib.hid hg; clear hg
    by_cases hlt : k < cs.length
    · obtain ⟨c, hc⟩ : ∃ c, cs[k]? = some c := ⟨_, List.getElem?_eq_getElem hlt⟩
      have hcell := hLr k c hc
      have hm : c ∈ cs := List.mem_of_getElem? hc
      have eg : ∀ args w, (callFunc c.g args).run Try.prog w = .ok (.enter c.g args) w := hE c hm
      have hd : cs.drop k = c :: cs.drop (k + 1) := by
        rw [List.drop_eq_getElem_cons hlt]
        rw [List.getElem?_eq_getElem hlt] at hc
        cases hc; rfl
      rw [hd] at hRr
      have HR := Lib.hid hRr; clear hRr hd hc hR hE
      unfold Clo.val at hcell
      go_wp2_with fail
      refine HR.out.mono ?_
      rintro e w' (⟨n, rfl, hn0, hq⟩ | ⟨rfl, hL', hR'⟩ | ⟨ch, rfl, hq⟩)
      · have hnz : (n == 0) = false := by simpa using hn0
        clear hn0
        go_wp2
        exact hq
      · go_wp2
        go_roundg (cs.length - (k + 1))
        case measure => have := HG.out; omega
        case rel => exact ⟨k + 1, by omega, rfl, by go_num, hL', hR'⟩
      · exact ⟨rfl, hq⟩
    · have hkk : k = cs.length := by omega
      have hd : cs.drop k = [] := by rw [List.drop_eq_nil_iff]; omega
      rw [hd] at hRr
      have HR := Lib.hid hRr; clear hRr hd hR hE
      have HK := Lib.hid hkk; clear hkk
      go_wp2
      have h := HR.out
      rw [HK.out] at h
      exact h
end Go.Proofs.Ytlajejbglpggeaa
