/-
  object.room: whether there is room for a thing.
-/
import Derived.Test.YtgnigkghkldcfaaObj
import Derived.Deep.QuietTactic
import Derived.BigQuiet
namespace Go.Proofs.Ytgnigkghkldcfaa
open Go.RowKit Go.Proofs Go.Lib

theorem zero_bytes (w : World) : (zeroValue 36).run Try.prog w = .ok (.slice none 0 0) w := by kernel_rfl

def OS.roomCode (s : OS) (name b : Bs) : Int :=
  if b.length > 1048576 then 2
  else if (b.length : Int) > s.quota - sizeR s.row + ((lk s.row name).getD []).length then 31
  else if (lk s.row name).isNone ∧ s.row.length = 4096 then 3 else 0

def CodePost (c : Int) (w : World) (e : Ending) (w' : World) : Prop := e = .returned (.int .i64 c) ∧ ∃ q, w' = w.drewN q

set_option maxRecDepth 100000 in
set_option maxHeartbeats 1000000 in
theorem room_any (sb : Nat) (G : OG) (s : OS) (w : World) (hS : ObjAt w sb G s) (nm : ByteArray) (hnm : nm.size ≤ maxLen) (bv : Value) (b : Bs) (hb : BytesAt w bv b) (hbl : b.length ≤ 140737488355328) :
    Calls Try.prog 75 #[.pointer (some ⟨sb, 0, none⟩), .string nm, bv] w (CodePost (s.roomCode nm.data.toList b) w) := by
  obtain ⟨a, c, rfl⟩ : ∃ a c, bv = .slice a b.length c := let ⟨_, a, c, e, _⟩ := hb; ⟨a, c, e⟩
  have c0 : w.cell? ⟨sb, 0, none⟩ = some (.map (some G.mb)) := by rw [cell_blk hS.blk]; simp
  have c1 : w.cell? ⟨sb, 1, none⟩ = some (.int .i64 s.quota) := by rw [cell_blk hS.blk]; simp
  have c2 : w.cell? ⟨sb, 2, none⟩ = some (.int .i64 (sizeR s.row)) := by rw [cell_blk hS.blk]; simp
  have hq := hS.ok.quota
  have hsz := hS.ok.size
  have hlen : ∀ (ty : TypeId) (q : Nat), (Builtin.len_ #[115] ty #[.map (some G.mb)]).run Try.prog (w.drewN q) = .ok (.int .i64 G.ents.length) (w.drewN q) := fun ty q => MapP.len (P := Try.prog) Try.underlying115 (MapP.keep hS.map ((Keep.refl (fun _ => False) w).drewN q) (fun e => e)) ty
  have hlook := MapP.look_ok Try.underlying9 Try.underlying115 hS.map nm hnm (zero_bytes w)
  have hrl : G.ents.length = s.row.length := hS.rows.length
  rw [hrl] at hlen
  have hm := hS.ok.many
  -- what the look-up finds: a slice of as many bytes
  obtain ⟨a2, n2, c2', t, hl1, hl2, hn2, ht⟩ : ∃ a2 n2 c2' t, (lk G.ents nm.data.toList).getD (.slice none 0 0) = .slice a2 n2 c2' ∧ (lk G.ents nm.data.toList).isSome = t ∧ n2 = ((lk s.row nm.data.toList).getD []).length ∧ t = (lk s.row nm.data.toList).isSome := by
    rcases lk_step hS.rows nm.data.toList with ⟨h1, h2⟩ | ⟨v, l, h1, h2, h3⟩
    · exact ⟨none, 0, 0, false, by rw [h1]; rfl, by rw [h1]; rfl, by rw [h2]; rfl, by rw [h2]; rfl⟩
    · obtain ⟨_, a3, c3, e3, _⟩ := h3
      exact ⟨a3, l.length, c3, true, by rw [h1, ← e3]; rfl, by rw [h1]; rfl, by rw [h2]; rfl, by rw [h2]; rfl⟩
  rw [hl1, hl2] at hlook
  have hn4 : n2 ≤ sizeR s.row := by rw [hn2]; exact lk_le _ _
  have hn3 : n2 ≤ 1048576 := by
    rw [hn2]
    cases hlk : lk s.row nm.data.toList with
    | none => simp
    | some l =>
      unfold lk at hlk
      simp only [Option.map_eq_some_iff] at hlk
      obtain ⟨e, he, rfl⟩ := hlk
      exact (hS.ok.names e (List.mem_of_find?_eq_some he)).2
  have hc : s.roomCode nm.data.toList b = if b.length > 1048576 then 2 else if (b.length : Int) > s.quota - sizeR s.row + n2 then 31 else if t = false ∧ s.row.length = 4096 then 3 else 0 := by
    unfold OS.roomCode
    rw [← hn2, ht]
    cases lk s.row nm.data.toList <;> simp
  obtain ⟨Z, hZ⟩ : ∃ Z : Nat, Z = sizeR s.row := ⟨_, rfl⟩
  obtain ⟨L, hL⟩ : ∃ L : Nat, L = s.row.length := ⟨_, rfl⟩
  rw [← hZ] at hc c2 hsz hn4
  rw [← hL] at hc hlen hm
  have HC := Lib.hid hc; clear hc
  have hw1 : IntKind.i64.wrap (s.quota - Z) = s.quota - Z := IntWalk.i64_in _ (by omega)
  have hw2 : IntKind.i64.wrap (s.quota - Z + n2) = s.quota - Z + n2 := IntWalk.i64_in _ (by omega)
  clear hl1 hl2 hn2 ht hrl hZ hL hS hb
  by_cases h1 : (1048576 : Int) < b.length
  · go_enter Try.func75, Try.ntmps75
    go_wp2
    go_ret
    exact ⟨by rw [HC.out, if_pos (by omega)]; rfl, 0, rfl⟩
  · by_cases h2 : s.quota - Z + n2 < b.length
    · go_enter Try.func75, Try.ntmps75
      go_wp2
      go_quiet (fail)
      go_wp2
      go_ret
      exact ⟨by rw [HC.out, if_neg (by omega), if_pos (by omega)]; rfl, _, rfl⟩
    · cases t with
      | true =>
        go_enter Try.func75, Try.ntmps75
        go_wp2
        go_quiet (fail)
        go_wp2
        go_ret
        exact ⟨by rw [HC.out, if_neg (by omega), if_neg (by omega), if_neg (by simp)]; rfl, _, rfl⟩
      | false =>
        by_cases h3 : L = 4096
        · have h3' : ((L : Int) == 4096) = true := by simp; omega
          have H3 := Lib.hid h3; clear h3
          go_enter Try.func75, Try.ntmps75
          go_wp2
          go_quiet (fail)
          go_wp2
          go_ret
          exact ⟨by rw [HC.out, if_neg (by omega), if_neg (by omega), if_pos (by simp [H3.out])]; rfl, _, rfl⟩
        · have h3' : ((L : Int) == 4096) = false := by simp; omega
          go_enter Try.func75, Try.ntmps75
          go_wp2
          go_quiet (fail)
          go_wp2
          go_ret
          exact ⟨by rw [HC.out, if_neg (by omega), if_neg (by omega), if_neg (fun e => h3 e.2)]; rfl, _, rfl⟩
end Go.Proofs.Ytgnigkghkldcfaa
