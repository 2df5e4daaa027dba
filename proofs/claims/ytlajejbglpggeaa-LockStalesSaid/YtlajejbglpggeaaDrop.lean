/-
  object.Drop; and what an operation leaves that blows the fuse.
-/
import Derived.Test.YtlajejbglpggeaaGet
namespace Go.Proofs.Ytlajejbglpggeaa
open Go.RowKit Go.Proofs Go.Lib

theorem get_blow (sb : Nat) (G : OG) (s : OS) (w : World) (hS : ObjAt w sb G s) (hl : s.left = 0) (nm : ByteArray) :
    ∃ fb, G.fuse = .pointer (some ⟨fb, 0, none⟩) ∧ Calls Try.prog 41 #[.pointer (some ⟨sb, 0, none⟩), .string nm] w fun e w' => e = .panicked (blowChain fb) ∧ Keep (fun _ => False) w w' := by
  obtain ⟨fb, hfb, hop⟩ := op_blow sb G s w hS hl
  refine ⟨fb, hfb, ?_⟩
  clear hS
  go_enter Try.func41, Try.ntmps41
  go_wp2_with (go_at_call 43; refine hop.mono ?_; rintro e w1 ⟨rfl, rfl⟩)
  exact ⟨rfl, rfl, Keep.refl _ _⟩
theorem drop_blow (sb : Nat) (G : OG) (s : OS) (w : World) (hS : ObjAt w sb G s) (hl : s.left = 0) (nm : ByteArray) :
    ∃ fb, G.fuse = .pointer (some ⟨fb, 0, none⟩) ∧ Calls Try.prog 29 #[.pointer (some ⟨sb, 0, none⟩), .string nm] w fun e w' => e = .panicked (blowChain fb) ∧ Keep (fun _ => False) w w' := by
  obtain ⟨fb, hfb, hop⟩ := op_blow sb G s w hS hl
  refine ⟨fb, hfb, ?_⟩
  clear hS
  go_enter Try.func29, Try.ntmps29
  go_wp2_with (go_at_call 43; refine hop.mono ?_; rintro e w1 ⟨rfl, rfl⟩)
  exact ⟨rfl, rfl, Keep.refl _ _⟩

/-- The store behind Drop. -/
theorem drop_store {sb : Nat} {G : OG} {s : OS} {fv : Value} {w1 w3 : World} {name : Bs} (hO : ObjAt w1 sb { G with faults := fv } s) {z : Int} (hz : z = sizeR (delK name s.row))
    (hm3 : MapAt w3 G.mb (delK name G.ents)) (hk3 : Keep (· = G.mb) (putX w1 sb z) w3) :
    ObjAt w3 sb { G with faults := fv, ents := delK name G.ents } { s with row := delK name s.row } := by
  have hmb := MapP.ne hO.map hO.blk
  have hkx : Keep (· = sb) w1 (putX w1 sb z) := (Keep.refl (· = sb) w1).setCell (p := ⟨sb, 2, none⟩) (fun _ => rfl) _
  have hk13 : Keep (fun x => x = sb ∨ x = G.mb) w1 w3 := hkx.trans' hk3 (fun _ _ e => .inl e) (fun _ _ e => .inr e)
  have hb3 : w3.heap[sb]? = some (.cells #[.map (some G.mb), .int .i64 s.quota, .int .i64 z, .int .i64 s.ops, G.fuse, fv] 59 (0, 0)) := by
    have h0 := set_blk hO.blk 2 (.int .i64 z)
    have h4 := hk3.heap (b := sb) h0 (fun e => hmb e.symm)
    rw [h4]; simp
  have hsz := sizeR_delK hO.ok.rising name
  have hle : (delK name s.row).length ≤ s.row.length := List.length_filter_le _ _
  refine ⟨by rw [hb3, hz], hm3, ?_, ?_, ?_, ⟨hO.ok.quota, by have := hO.ok.size; dsimp only; omega, hO.ok.ops, rising_delK hO.ok.rising, fun r hr => hO.ok.names r (mem_delK.1 hr).1, Nat.le_trans hle hO.ok.many⟩⟩
  · refine All2.delK (fun _ _ h => h.1) (hO.rows.imp (fun a _ b _ hab => ⟨hab.1, Sl.keep hab.2 hk13 (fun x hn ex hx => ?_)⟩))
    rcases hx with rfl | rfl
    · refine BytesAt.ne_cells hab.2 hO.blk (fun y i => ?_) hn ex
      obtain ⟨_, a1, c1, e3, _⟩ := hO.faults
      dsimp only at e3
      rcases hO.fuse with ⟨e1, _⟩ | ⟨fb, e1, _⟩ <;> dsimp only at e1 <;> rw [e1, e3] <;>
        (match i with
         | 0 | 1 | 2 | 3 | 4 | 5 => simp
         | i + 6 => simp)
    · obtain ⟨es, clock, ho⟩ := MapP.obj hO.map
      exact Sl.ne_other hab.2 (by decide) ho (fun _ _ _ e => by cases e) hn ex
  · refine hO.fuse.keep hk13 (fun fb e hx => ?_)
    rcases hO.fuse with ⟨e1, _⟩ | ⟨fb', e1, hF⟩
    · rw [e1] at e; cases e
    · rw [e1] at e; cases e
      rcases hx with rfl | rfl
      · have := hF.1.symm.trans hO.blk; simp at this
      · exact MapP.ne hO.map hF.1 rfl
  · refine Sl.keep hO.faults hk13 (fun x hn ex hx => ?_)
    have hx0 : ∀ y, (s.faults.map Value.bool)[0]? = some y → ∃ t, y = .bool t := by
      intro y hy
      cases hf : s.faults with
      | nil => rw [hf] at hy; simp at hy
      | cons t r => rw [hf] at hy; simp at hy; exact ⟨t, hy.symm⟩
    rcases hx with rfl | rfl
    · refine Sl.ne_cells hO.faults (by decide) hO.blk (fun y hy i => ?_) hn ex
      obtain ⟨t, rfl⟩ := hx0 y hy
      obtain ⟨_, a1, c1, e3, _⟩ := hO.faults
      dsimp only at e3
      rcases hO.fuse with ⟨e1, _⟩ | ⟨fb, e1, _⟩ <;> dsimp only at e1 <;> rw [e1, e3] <;>
        (match i with
         | 0 | 1 | 2 | 3 | 4 | 5 => simp
         | i + 6 => simp)
    · obtain ⟨es, clock, ho⟩ := MapP.obj hO.map
      exact Sl.ne_other hO.faults (by decide) ho (fun _ _ _ e => by cases e) hn ex

def OS.drop (s : OS) (name : Bs) : OS := if s.getCode name = 0 then { s.op with row := delK name s.row } else s.op

def DropPost (sb : Nat) (G : OG) (s : OS) (name : Bs) (w : World) (e : Ending) (w' : World) : Prop :=
  ∃ fv en, e = .returned (.int .i64 (s.getCode name)) ∧ ObjAt w' sb { G with faults := fv, ents := en } (s.drop name) ∧ vblk fv = vblk G.faults ∧ (∀ x, x ∈ en → x ∈ G.ents) ∧ Keep (OG.mine sb G) w w'

theorem drop_go (sb : Nat) (G : OG) (s : OS) (w : World) (hS : ObjAt w sb G s) (hl : s.left ≠ 0) (ho : s.ops < 4611686018427387904) (nm : ByteArray) (hnm : nm.size ≤ maxLen) :
    Calls Try.prog 29 #[.pointer (some ⟨sb, 0, none⟩), .string nm] w (DropPost sb G s nm.data.toList w) := by
  have HC := op_go sb G s w hS hl ho
  clear hS
  obtain ⟨C, hC⟩ : ∃ C, C = s.code := ⟨_, rfl⟩
  have hmine : ∀ w1, Keep (fun b => b = sb ∨ vblk G.fuse = some b) w w1 → Keep (OG.mine sb G) w w1 := fun w1 h => h.mono (fun _ _ e => e.elim .inl (fun e => .inr (.inr e)))
  by_cases hc : s.code = 0
  · have hcc := Lib.hid hc
    have H3 := Lib.hid hC; clear hC hc
    go_enter Try.func29, Try.ntmps29
    go_wp2_with fail
    refine HC.mono ?_
    rintro e w1 ⟨fv, rfl, hO, hfv, hk1⟩
    rw [hcc.out]
    obtain ⟨v, t, hlook, ht, hb⟩ := look_row hO nm hnm
    have c0 : w1.cell? ⟨sb, 0, none⟩ = some (.map (some G.mb)) := by rw [cell_blk hO.blk]; simp
    have c2 : w1.cell? ⟨sb, 2, none⟩ = some (.int .i64 (sizeR s.row)) := by rw [cell_blk hO.blk]; rfl
    have f2 : w1.frozen? ⟨sb, 2, none⟩ = false := frozen_blk hO.blk 2
    obtain ⟨a, n, c, rfl⟩ : ∃ a n c, v = .slice a n c := let ⟨_, a, c, e, _⟩ := hb; ⟨a, _, c, e⟩
    have hn2 : n = ((lk s.row nm.data.toList).getD []).length := by obtain ⟨_, a', c', e, _⟩ := hb; cases e; rfl
    have hle := lk_le s.row nm.data.toList
    rw [← hn2] at hle
    have hsd := sizeR_delK hO.ok.rising nm.data.toList
    dsimp only [OS.op] at hsd
    rw [← hn2] at hsd
    have hq := hO.ok.size
    have hq2 := hO.ok.quota
    dsimp only [OS.op] at hq hq2
    obtain ⟨Z, hZ⟩ : ∃ Z : Nat, Z = sizeR s.row := ⟨_, rfl⟩
    rw [← hZ] at c2 hle hsd hq
    obtain ⟨w3, hdel, hm3, hk3⟩ := MapP.drop Try.underlying9 Try.underlying56 (MapP.keep hO.map ((Keep.refl (· = sb) w1).setCell (p := ⟨sb, 2, none⟩) (fun _ => rfl) (.int .i64 ((Z : Int) - n))) (MapP.ne hO.map hO.blk)) nm hnm 0
    have fin : t = true → DropPost sb G s nm.data.toList w (.returned (.int .i64 0)) w3 := by
      intro e
      have h1 := drop_store (name := nm.data.toList) hO (z := (Z : Int) - n) (by dsimp only [OS.op]; omega) hm3 hk3
      have hcode : s.getCode nm.data.toList = 0 := by
        unfold OS.getCode
        rw [if_neg (by simpa using hcc.out)]
        rw [e] at ht
        dsimp only [OS.op] at ht
        cases hx : lk s.row nm.data.toList with
        | none => rw [hx] at ht; cases ht
        | some l => rfl
      refine ⟨fv, delK nm.data.toList G.ents, by rw [hcode], ?_, hfv, fun x hx => (mem_delK.1 hx).1, ?_⟩
      · unfold OS.drop
        rw [if_pos hcode]
        exact h1
      · exact ((hmine _ hk1).setCell (p := ⟨sb, 2, none⟩) (fun _ => .inl rfl) (.int .i64 ((Z : Int) - n))).trans' hk3 (fun _ _ e => e) (fun _ _ e => .inr (.inl e))
    have fin2 : t = false → DropPost sb G s nm.data.toList w (.returned (.int .i64 4)) w1 := by
      intro e
      have hcode : s.getCode nm.data.toList = 4 := by
        unfold OS.getCode
        rw [if_neg (by simpa using hcc.out)]
        rw [e] at ht
        dsimp only [OS.op] at ht
        cases hx : lk s.row nm.data.toList with
        | none => rfl
        | some l => rw [hx] at ht; cases ht
      refine ⟨fv, G.ents, by rw [hcode], ?_, hfv, fun x hx => hx, hmine _ hk1⟩
      unfold OS.drop
      rw [if_neg (by rw [hcode]; decide)]
      exact hO
    have F1 := Lib.hid fin
    have F2 := Lib.hid fin2
    clear fin fin2 hb ht hm3 hk3 hO hn2 hZ hsd hmine
    cases t
    · go_wp2
      go_ret
      exact F2.out (by simp)
    · go_wp2
      go_ret
      exact F1.out (by simp)
  · have hnz : (C == 0) = false := by rw [hC]; simpa using hc
    have hcc := Lib.hid hc
    have H3 := Lib.hid hC; clear hC hc
    go_enter Try.func29, Try.ntmps29
    go_wp2_with fail
    refine HC.mono ?_
    rintro e w1 ⟨fv, rfl, hO, hfv, hk1⟩
    rw [← H3.out]
    go_wp2
    go_ret
    have hcode : s.getCode nm.data.toList = s.code := by unfold OS.getCode; rw [if_pos hcc.out]
    refine ⟨fv, G.ents, by rw [hcode, ← H3.out]; rfl, ?_, hfv, fun x hx => hx, hmine _ hk1⟩
    unfold OS.drop
    rw [if_neg (by rw [hcode]; exact hcc.out)]
    exact hO
end Go.Proofs.Ytlajejbglpggeaa
