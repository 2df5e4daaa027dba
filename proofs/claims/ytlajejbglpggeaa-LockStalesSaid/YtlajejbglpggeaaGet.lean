/-
  object.Get, Drop, Size, Len, Ops.
-/
import Derived.Test.YtlajejbglpggeaaPut
namespace Go.Proofs.Ytlajejbglpggeaa
open Go.RowKit Go.Proofs Go.Lib

theorem len_any (sb : Nat) (G : OG) (s : OS) (w : World) (hS : ObjAt w sb G s) : Calls Try.prog 14 #[.pointer (some ⟨sb, 0, none⟩)] w fun e w' => e = .returned (.int .i64 s.row.length) ∧ w = w' := by
  have c0 : w.cell? ⟨sb, 0, none⟩ = some (.map (some G.mb)) := by rw [cell_blk hS.blk]; simp
  have hlen : ∀ (ty : TypeId), (Builtin.len_ #[56] ty #[.map (some G.mb)]).run Try.prog w = .ok (.int .i64 G.ents.length) w := fun ty => MapP.len (P := Try.prog) Try.underlying56 hS.map ty
  rw [hS.rows.length] at hlen
  clear hS
  go_enter Try.func14, Try.ntmps14
  go_wp2
  go_ret
  exact ⟨rfl, rfl⟩

/-- what the look-up finds: a slice that reads as the row says -/
theorem look_row {w : World} {sb : Nat} {G : OG} {s : OS} (hS : ObjAt w sb G s) (nm : ByteArray) (hnm : nm.size ≤ maxLen) :
    ∃ v t, (Instr.lookup 56 (.map (some G.mb)) (.string nm) true).run Try.prog w = .ok (.tuple #[v, .bool t]) w ∧ t = (lk s.row nm.data.toList).isSome ∧ BytesAt w v ((lk s.row nm.data.toList).getD []) := by
  have hlook := MapP.look_ok Try.underlying9 Try.underlying56 hS.map nm hnm (zero_bytes w)
  refine ⟨_, _, hlook, ?_⟩
  rcases lk_step hS.rows nm.data.toList with ⟨h1, h2⟩ | ⟨v, l, h1, h2, h3⟩
  · rw [h1, h2]; exact ⟨rfl, Sl.nil _ _⟩
  · rw [h1, h2]; exact ⟨rfl, h3⟩

theorem row_short {s : OS} (h : s.Ok) (k : Bs) : ((lk s.row k).getD []).length ≤ 1048576 := by
  cases hl : lk s.row k with
  | none => simp
  | some l => exact (h.names _ (lk_mem hl)).2

def OS.getCode (s : OS) (name : Bs) : Int := if s.code ≠ 0 then s.code else if (lk s.row name).isNone then 4 else 0
def OS.getBytes (s : OS) (name : Bs) : Bs := if s.code ≠ 0 then [] else (lk s.row name).getD []

theorem own_base {w : World} {base base' : Nat} {e : TypeId} {k : Nat} {v : Value} {n : Nat} {xs : List Value} (h : w.ownsRow base e k v n xs) (hb : base' ≤ base) : w.ownsRow base' e k v n xs :=
  ⟨h.1, h.2.elim .inl (fun ⟨g, cap, cur, hv, hg, r⟩ => .inr ⟨g, cap, cur, hv, Nat.le_trans hb hg, r⟩)⟩

def GetPost (sb : Nat) (G : OG) (s : OS) (name : Bs) (w : World) (e : Ending) (w' : World) : Prop :=
  ∃ fv v, e = .returned (.tuple #[v, .int .i64 (s.getCode name)]) ∧ ObjAt w' sb { G with faults := fv } s.op ∧ vblk fv = vblk G.faults ∧ w'.ownsRow w.heap.size 5 1 v (s.getBytes name).length (bytesV (s.getBytes name)) ∧
    Keep (fun b => b = sb ∨ vblk G.fuse = some b) w w'

theorem get_go (sb : Nat) (G : OG) (s : OS) (w : World) (hS : ObjAt w sb G s) (hl : s.left ≠ 0) (ho : s.ops < 4611686018427387904) (nm : ByteArray) (hnm : nm.size ≤ maxLen) :
    Calls Try.prog 41 #[.pointer (some ⟨sb, 0, none⟩), .string nm] w (GetPost sb G s nm.data.toList w) := by
  have HC := op_go sb G s w hS hl ho
  clear hS
  obtain ⟨C, hC⟩ : ∃ C, C = s.code := ⟨_, rfl⟩
  by_cases hc : s.code = 0
  · have hcc := Lib.hid hc
    have H3 := Lib.hid hC; clear hC hc
    go_enter Try.func41, Try.ntmps41
    go_wp2_with fail
    refine HC.mono ?_
    rintro e w1 ⟨fv, rfl, hO, hfv, hk1⟩
    rw [hcc.out]
    obtain ⟨v, t, hlook, ht, hb⟩ := look_row hO nm hnm
    have c0 : w1.cell? ⟨sb, 0, none⟩ = some (.map (some G.mb)) := by rw [cell_blk hO.blk]; simp
    obtain ⟨a, n, c, rfl⟩ : ∃ a n c, v = .slice a n c := let ⟨_, a, c, e, _⟩ := hb; ⟨a, _, c, e⟩
    have H := Lib.hid hb
    have H1 := Lib.hid ht
    clear hb ht
    cases t
    · go_wp2
      go_ret2
      have hn : (lk s.row nm.data.toList) = none := by
        have := H1.out
        dsimp only [OS.op] at this
        cases hl : lk s.row nm.data.toList with
        | none => rfl
        | some l => rw [hl] at this; cases this
      have hg : s.getBytes nm.data.toList = [] := by unfold OS.getBytes; rw [hn]; split <;> rfl
      refine ⟨fv, .slice none 0 0, ?_, hO, hfv, by rw [hg]; exact World.ownsRow_nil _ _ _ _, hk1⟩
      unfold OS.getCode
      rw [if_neg (by simpa using hcc.out), hn]; rfl
    · go_wp2_with fail
      refine (cloneB_own _ _ _ H.out (Nat.le_trans (row_short hO.ok _) (by decide))).mono ?_
      rintro e w2 ⟨v2, rfl, hv2, hbl⟩
      have hn : (lk s.row nm.data.toList).isNone = false := by
        have := H1.out
        dsimp only [OS.op] at this
        cases hl : lk s.row nm.data.toList with
        | none => rw [hl] at this; cases this
        | some l => rfl
      have hg : s.getBytes nm.data.toList = (lk s.op.row nm.data.toList).getD [] := by unfold OS.getBytes; rw [if_neg (by simpa using hcc.out)]; rfl
      have fin : GetPost sb G s nm.data.toList w (.returned (.tuple #[v2, .int .i64 0])) w2 := by
        refine ⟨fv, v2, ?_, hO.below hbl, hfv, by rw [hg]; exact own_base hv2 hk1.size, hk1.trans (Keep.of_below hbl _)⟩
        unfold OS.getCode
        rw [if_neg (by simpa using hcc.out), hn]; rfl
      have HF := Lib.hid fin
      clear fin hv2 hbl hO hfv hk1 hlook c0
      go_wp2
      go_ret2
      exact HF.out
  · have hnz : (C == 0) = false := by rw [hC]; simpa using hc
    have hcc := Lib.hid hc
    have H3 := Lib.hid hC; clear hC hc
    go_enter Try.func41, Try.ntmps41
    go_wp2_with fail
    refine HC.mono ?_
    rintro e w1 ⟨fv, rfl, hO, hfv, hk1⟩
    rw [← H3.out]
    go_wp2
    go_ret2
    have hg : s.getBytes nm.data.toList = [] := by unfold OS.getBytes; rw [if_pos hcc.out]
    refine ⟨fv, .slice none 0 0, ?_, hO, hfv, by rw [hg]; exact World.ownsRow_nil _ _ _ _, hk1⟩
    unfold OS.getCode
    rw [if_pos hcc.out, ← H3.out]; rfl
end Go.Proofs.Ytlajejbglpggeaa
