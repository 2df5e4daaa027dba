/-
  The object store: op, where no fuse blows.
-/
import Derived.Test.YtlajejbglpggeaaObj0
import Derived.Deep.Light
namespace Go.Proofs.Ytlajejbglpggeaa
open Go.RowKit Go.Proofs

/-- What a step on the store's own block and on its fuse leaves. -/
theorem ObjAt.turn {sb : Nat} {G : OG} {s : OS} {w w' : World} (h : ObjAt w sb G s) {F : Nat → Prop} (hk : Keep F w w') (hF : ∀ b, F b → b = sb ∨ vblk G.fuse = some b)
    {fv : Value} {s' : OS} (hrow : s'.row = s.row) (hq : s'.quota = s.quota) (ho : 0 ≤ s'.ops ∧ s'.ops ≤ 4611686018427387904)
    (hb : w'.heap[sb]? = some (.cells #[.map (some G.mb), .int .i64 s.quota, .int .i64 (sizeR s.row), .int .i64 s'.ops, G.fuse, fv] 59 (0, 0)))
    (hf : FuseIs w' G.fuse s'.left) (hfa : Sl w' 1 fv s'.faults.length (s'.faults.map .bool)) : ObjAt w' sb { G with faults := fv } s' := by
  have hfb : ∀ b, vblk G.fuse = some b → ∃ n, w.heap[b]? = some (.cells #[.int .i64 n] 116 (0, 0)) := by
    intro b e
    rcases h.fuse with ⟨e1, _⟩ | ⟨fb, e1, hfu⟩
    · rw [e1] at e; simp [vblk] at e
    · rw [e1] at e; simp [vblk] at e; subst e; exact ⟨_, hfu.1⟩
  refine ⟨by rw [hq, hrow]; exact hb, MapP.keep h.map hk ?_, ?_, hf, hfa, ⟨by rw [hq]; exact h.ok.quota, by rw [hq, hrow]; exact h.ok.size, ho, by rw [hrow]; exact h.ok.rising, by rw [hrow]; exact h.ok.names, by rw [hrow]; exact h.ok.many⟩⟩
  · intro e
    rcases hF _ e with e | e
    · exact MapP.ne h.map h.blk e
    · obtain ⟨n, hn⟩ := hfb _ e
      exact MapP.ne h.map hn rfl
  · rw [hrow]
    refine h.rows.imp (fun a _ b _ hab => ⟨hab.1, hab.2.keep hk ?_⟩)
    intro b' hn e hb'
    rcases hF _ hb' with rfl | e2
    · exact hab.2.ne_cells h.blk (fun x i => by
        rcases h.fuse with ⟨e1, _⟩ | ⟨fb, e1, _⟩ <;> rw [e1] <;>
        (obtain ⟨_, a1, c1, e3, _⟩ := h.faults
         rw [e3]
         match i with
         | 0 | 1 | 2 | 3 | 4 | 5 => simp
         | i + 6 => simp)) hn e
    · obtain ⟨n, hn'⟩ := hfb _ e2
      exact hab.2.ne_cells hn' (fun x i => by
        match i with
        | 0 => simp
        | i + 1 => simp) hn e

theorem end0 {W : World} {sb : Nat} {G : OG} {s : OS} (h : ObjAt W sb G s) (hfs : s.faults = []) (ho : s.ops < 4611686018427387904) :
    ObjAt (W.setCell ⟨sb, 3, none⟩ (.int .i64 (s.ops + 1))) sb { G with faults := G.faults } { s with ops := s.ops + 1, faults := [] } := by
  have hk := (Keep.refl (· = sb) W).setCell (p := ⟨sb, 3, none⟩) (fun _ => rfl) (.int .i64 (s.ops + 1))
  refine h.turn hk (fun b e => .inl e) rfl rfl ⟨by have := h.ok.ops.1; simp; omega, by simp; omega⟩ ?_ ?_ ?_
  · rw [set_blk h.blk]; simp
  · exact h.fuse.keep hk (fun fb e => by
      rintro rfl
      rcases h.fuse with ⟨e1, _⟩ | ⟨fb', e1, hF⟩
      · rw [e1] at e; cases e
      · rw [e1] at e; cases e
        have := hF.1.symm.trans h.blk
        simp at this)
  · have := h.faults
    rw [hfs] at this
    exact ⟨this.1, let ⟨a, c, e1, e2, e3, e4, e5⟩ := this.2; ⟨a, c, e1, e2, e3, e4, fun h => absurd h (by simp)⟩⟩

theorem end1 {W : World} {sb : Nat} {G : OG} {s : OS} (h : ObjAt W sb G s) {x : Bool} {r : List Bool} (_hfs : s.faults = x :: r) (ho : s.ops < 4611686018427387904) {fv : Value} (hfv : Sl W 1 fv r.length (r.map .bool)) :
    ObjAt ((W.setCell ⟨sb, 3, none⟩ (.int .i64 (s.ops + 1))).setCell ⟨sb, 5, none⟩ fv) sb { G with faults := fv } { s with ops := s.ops + 1, faults := r } := by
  have hk := ((Keep.refl (· = sb) W).setCell (p := ⟨sb, 3, none⟩) (fun _ => rfl) (.int .i64 (s.ops + 1))).setCell (p := ⟨sb, 5, none⟩) (fun _ => rfl) fv
  refine h.turn hk (fun b e => .inl e) rfl rfl ⟨by have := h.ok.ops.1; simp; omega, by simp; omega⟩ ?_ ?_ ?_
  · rw [set_blk (set_blk h.blk 3 _)]; simp
  · exact h.fuse.keep hk (fun fb e => by
      rintro rfl
      rcases h.fuse with ⟨e1, _⟩ | ⟨fb', e1, hF⟩
      · rw [e1] at e; cases e
      · rw [e1] at e; cases e
        have := hF.1.symm.trans h.blk
        simp at this)
  · refine hfv.keep hk (fun b hn e => ?_)
    rintro rfl
    refine hfv.ne_cells (by decide) h.blk (fun y hy i => ?_) hn e
    cases r with
    | nil => simp at hn
    | cons z r =>
      simp at hy; subst hy
      rcases h.fuse with ⟨e1, _⟩ | ⟨fb, e1, _⟩ <;> rw [e1] <;>
        (obtain ⟨_, a1, c1, e3, _⟩ := h.faults
         rw [e3]
         match i with
         | 0 | 1 | 2 | 3 | 4 | 5 => simp
         | i + 6 => simp)

theorem faults_tail {W : World} {x : Bool} {r : List Bool} {b o c : Nat} (h : Sl W 1 (.slice (some ⟨b, o, none⟩) (r.length + 1) c) (r.length + 1) ((x :: r).map .bool)) :
    (c = 1 → Sl W 1 (.slice (some ⟨b, o, none⟩) r.length 0) r.length (r.map .bool)) ∧ (¬ c = 1 → Sl W 1 (.slice (some ⟨b, o + 1, none⟩) r.length (c - 1)) r.length (r.map .bool)) := by
  obtain ⟨h1, a, c', e, h2, h3, h4, h5⟩ := h
  simp only [Value.slice.injEq] at e
  obtain ⟨rfl, _, rfl⟩ := e
  obtain ⟨b', o', e', h6⟩ := h5 (by omega)
  cases e'
  refine ⟨fun hc => ⟨by simp, _, 0, rfl, by omega, Nat.zero_le _, fun _ => rfl, fun hn => by omega⟩, fun hc => ⟨by simp, _, c - 1, rfl, by omega, by omega, (fun e => by cases e), fun hn => ⟨b, o + 1, rfl, fun j hj => ?_⟩⟩⟩
  have := h6 (j + 1) (by omega)
  simp only [Nat.add_assoc, Nat.add_comm 1 j]
  exact this

def OpPost (sb : Nat) (G : OG) (s : OS) (w : World) (e : Ending) (w' : World) : Prop :=
  ∃ fv, e = .returned (.int .i64 s.code) ∧ ObjAt w' sb { G with faults := fv } s.op ∧ vblk fv = vblk G.faults ∧ Keep (fun b => b = sb ∨ vblk G.fuse = some b) w w'

/-- the cells that the rest of op reads -/
theorem opCells {W : World} {sb : Nat} {G : OG} {s : OS} (h : ObjAt W sb G s) : W.cell? ⟨sb, 3, none⟩ = some (.int .i64 s.ops) ∧ W.cell? ⟨sb, 4, none⟩ = some G.fuse ∧ W.cell? ⟨sb, 5, none⟩ = some G.faults ∧
    W.frozen? ⟨sb, 3, none⟩ = false ∧ W.frozen? ⟨sb, 5, none⟩ = false :=
  ⟨by rw [cell_blk h.blk]; simp, by rw [cell_blk h.blk]; simp, by rw [cell_blk h.blk]; simp, frozen_blk h.blk 3, frozen_blk h.blk 5⟩

theorem faults_cons {W : World} {sb : Nat} {G : OG} {s : OS} (h : ObjAt W sb G s) {x : Bool} {r : List Bool} (hfs : s.faults = x :: r) :
    ∃ b o c, G.faults = .slice (some ⟨b, o, none⟩) (r.length + 1) c ∧ r.length + 1 ≤ c ∧ c ≤ maxLen ∧ W.cell? ⟨b, o, none⟩ = some (.bool x) ∧ ¬ sb = b := by
  obtain ⟨hfl, a, c, hfv, hfc, hcm, hac, hfx⟩ := h.faults
  rw [hfs] at hfx hfv hfc
  obtain ⟨b, o, rfl, hcell⟩ := hfx (by simp)
  have cx : W.cell? ⟨b, o, none⟩ = some (.bool x) := by have := hcell 0 (by simp); simpa using this
  refine ⟨b, o, c, hfv, hfc, hcm, cx, ?_⟩
  rintro rfl
  rw [cell_blk h.blk, hfv] at cx
  rcases h.fuse with ⟨e1, _⟩ | ⟨fb, e1, _⟩ <;> rw [e1] at cx <;>
    (match o with
     | 0 | 1 | 2 | 3 | 4 | 5 => simp at cx
     | o + 6 => simp at cx)

theorem op_nil (sb : Nat) (G : OG) (s : OS) (w : World) (hS : ObjAt w sb G s) (hf : G.fuse = .pointer none) (ho : s.ops < 4611686018427387904) :
    Calls Try.prog 43 #[.pointer (some ⟨sb, 0, none⟩)] w (OpPost sb G s w) := by
  obtain ⟨c3, c4, c5, f3, f5⟩ := opCells hS
  rw [hf] at c4
  have o1 := hS.ok.ops.1
  have hl : s.left = -1 := by
    rcases hS.fuse with ⟨_, e⟩ | ⟨fb, e, _⟩
    · exact e
    · rw [hf] at e; cases e
  have eop : ∀ r, s.faults.tail = r → s.op = { s with ops := s.ops + 1, faults := r } := fun r e => by simp [OS.op, e, hl, decF]
  cases hfs : s.faults with
  | nil =>
    obtain ⟨a, n, c, ea, en⟩ : ∃ a n c, G.faults = .slice a n c ∧ n = 0 := by
      obtain ⟨_, a, c, e, _⟩ := hS.faults
      exact ⟨a, _, c, e, by rw [hfs]; rfl⟩
    subst en
    rw [ea] at c5
    have H := Lib.hid hfs; have H1 := Lib.hid ea; have H2 := Lib.hid hf; have H3 := Lib.hid hl; have H4 := Lib.hid eop; clear hfs ea hf hl eop
    go_enter Try.func43, Try.ntmps43
    go_wp2
    go_ret
    refine ⟨G.faults, by rw [OS.code, H.out]; rfl, ?_, rfl, (Keep.refl _ w).setCell (p := ⟨sb, 3, none⟩) (fun _ => .inl rfl) _⟩
    rw [H4.out [] (by rw [H.out]; rfl)]
    exact end0 hS H.out ho
  | cons x r =>
    obtain ⟨b, o, c, ea, hc1, hc2, cx, hne⟩ := faults_cons hS hfs
    have ht := faults_tail (by have := hS.faults; rw [hfs, ea] at this; exact this)
    have hne' : ¬ b = sb := fun e => hne e.symm
    unfold maxLen at hc2
    rw [ea] at c5
    have H := Lib.hid hfs; have H1 := Lib.hid ea; have H2 := Lib.hid hf; have H3 := Lib.hid hl; have H4 := Lib.hid eop; have H5 := Lib.hid ht; clear hfs ea hf hl eop ht
    go_enter Try.func43, Try.ntmps43
    go_wp2
    all_goals
      have hx : x = true ∨ x = false := by cases x <;> simp
      go_ret
      refine ⟨_, ?_, by rw [H4.out r (by rw [H.out]; rfl)]; exact end1 hS H.out ho (by first | exact H5.out.1 rfl | exact H5.out.1 (by assumption) | exact H5.out.2 (by assumption)), by rw [H1.out]; rfl, ((Keep.refl _ w).setCell (p := ⟨sb, 3, none⟩) (fun _ => .inl rfl) _).setCell (p := ⟨sb, 5, none⟩) (fun _ => .inl rfl) _⟩
      rw [OS.code, H.out]
      simp [*]

theorem op_fuse (sb : Nat) (G : OG) (s : OS) (w : World) (hS : ObjAt w sb G s) (fb : Nat) (hf : G.fuse = .pointer (some ⟨fb, 0, none⟩)) (hF : FuseAt w fb s.left) (hl : s.left ≠ 0) (ho : s.ops < 4611686018427387904) :
    Calls Try.prog 43 #[.pointer (some ⟨sb, 0, none⟩)] w (OpPost sb G s w) := by
  obtain ⟨c3, c4, c5, f3, f5⟩ := opCells hS
  rw [hf] at c4
  have o1 := hS.ok.ops.1
  -- behind the fuse's step
  have hstep : ∀ W, FuseAt W fb (decF s.left) → Keep (· = fb) w W → ObjAt W sb G { s with left := decF s.left } := by
    intro W hW hk
    have hne : sb ≠ fb := by
      rintro rfl
      have := hF.1.symm.trans hS.blk
      simp at this
    refine hS.turn (fv := G.faults) hk (fun b e => .inr (by rw [hf, e]; rfl)) rfl rfl hS.ok.ops (hk.heap hS.blk hne) (.inr ⟨fb, hf, hW⟩) ?_
    refine Sl.keep hS.faults hk (fun b hn e eb => ?_)
    subst eb
    refine Sl.ne_cells hS.faults (by decide) hF.1 (fun y hy i => ?_) hn e
    cases hfs : s.faults with
    | nil => rw [hfs] at hn; simp at hn
    | cons z r =>
      rw [hfs] at hy; simp at hy; subst hy
      match i with
      | 0 => simp
      | i + 1 => simp
  have eop : ∀ r, s.faults.tail = r → s.op = { ({ s with left := decF s.left } : OS) with ops := s.ops + 1, faults := r } := fun r e => by simp [OS.op, e]
  have hkk : ∀ W, Keep (· = fb) w W → Keep (fun b => b = sb ∨ vblk G.fuse = some b) w W := fun W hk => hk.mono (fun i _ e => .inr (by rw [hf, e]; rfl))
  cases hfs : s.faults with
  | nil =>
    obtain ⟨a, n, c, ea, en⟩ : ∃ a n c, G.faults = .slice a n c ∧ n = 0 := by
      obtain ⟨_, a, c, e, _⟩ := hS.faults
      exact ⟨a, _, c, e, by rw [hfs]; rfl⟩
    subst en
    rw [ea] at c5
    have H := Lib.hid hfs; have H1 := Lib.hid ea; have H2 := Lib.hid hf; have H3 := Lib.hid hkk; have H4 := Lib.hid eop; have H5 := Lib.hid hstep; clear hfs ea hf eop hstep hkk
    go_enter Try.func43, Try.ntmps43
    go_wp2_with (go_at_call 61; refine (step_go _ _ _ hF hl).mono ?_; rintro e w1 ⟨rfl, hF1, hk1⟩; have h1 := H5.out _ hF1 hk1; obtain ⟨d3, d4, d5, e3, e5⟩ := opCells h1; rw [H2.out] at d4; rw [H1.out] at d5; clear c3 c4 c5 f3 f5)
    go_ret
    refine ⟨G.faults, by rw [OS.code, H.out]; rfl, ?_, rfl, ?_⟩
    · rw [H4.out [] (by rw [H.out]; rfl)]
      exact end0 h1 H.out ho
    · exact (H3.out _ hk1).setCell (p := ⟨sb, 3, none⟩) (fun _ => .inl rfl) _
  | cons x r =>
    obtain ⟨b, o, c, ea, hc1, hc2, cx, hne⟩ := faults_cons hS hfs
    have hne' : ¬ b = sb := fun e => hne e.symm
    unfold maxLen at hc2
    rw [ea] at c5
    have H := Lib.hid hfs; have H1 := Lib.hid ea; have H2 := Lib.hid hf; have H3 := Lib.hid hkk; have H4 := Lib.hid eop; have H5 := Lib.hid hstep; clear hfs ea hf eop hstep hkk
    go_enter Try.func43, Try.ntmps43
    go_wp2_with (go_at_call 61; refine (step_go _ _ _ hF hl).mono ?_; rintro e w1 ⟨rfl, hF1, hk1⟩; have h1 := H5.out _ hF1 hk1; obtain ⟨d3, d4, d5, e3, e5⟩ := opCells h1; rw [H2.out] at d4; rw [H1.out] at d5; obtain ⟨b1, o1', c1, ea1, _, _, cx1, _⟩ := faults_cons h1 H.out; rw [H1.out] at ea1; cases ea1; clear c3 c4 c5 f3 f5 cx)
    all_goals
      have ht := faults_tail (by have := h1.faults; dsimp only at this; rw [H.out, H1.out] at this; exact this)
      have hx : x = true ∨ x = false := by cases x <;> simp
      go_ret
      refine ⟨_, ?_, by rw [H4.out r (by rw [H.out]; rfl)]; exact end1 h1 H.out ho (by first | exact ht.1 rfl | exact ht.1 (by assumption) | exact ht.2 (by assumption)), by rw [H1.out]; rfl, ((H3.out _ hk1).setCell (p := ⟨sb, 3, none⟩) (fun _ => .inl rfl) _).setCell (p := ⟨sb, 5, none⟩) (fun _ => .inl rfl) _⟩
      rw [OS.code, H.out]
      simp [*]

theorem op_go (sb : Nat) (G : OG) (s : OS) (w : World) (hS : ObjAt w sb G s) (hl : s.left ≠ 0) (ho : s.ops < 4611686018427387904) :
    Calls Try.prog 43 #[.pointer (some ⟨sb, 0, none⟩)] w (OpPost sb G s w) := by
  rcases hS.fuse with ⟨hf, _⟩ | ⟨fb, hf, hF⟩
  · exact op_nil sb G s w hS hf ho
  · exact op_fuse sb G s w hS fb hf hF hl ho
end Go.Proofs.Ytlajejbglpggeaa
