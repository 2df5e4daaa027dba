/-
  The object store as its callers know it: New, Arm, and each operation, over what the store is and the blocks that it may hold.
-/
import Derived.Test.YtlajejbglpggeaaList
namespace Go.Proofs.Ytlajejbglpggeaa
open Go.RowKit Go.Proofs Go.Lib

/-- The block of a slice that has elements. -/
def vlive : Value → Option Nat
  | .slice (some a) n _ => if n = 0 then none else some a.block
  | _ => none
theorem vlive_blk {v : Value} {b : Nat} (h : vlive v = some b) : vblk v = some b := by
  unfold vlive at h
  split at h
  · split at h
    · cases h
    · exact h
  · cases h
theorem Sl.live {w : World} {k : Nat} {v : Value} {n : Nat} {xs : List Value} (h : Sl w k v n xs) (hn : 0 < n) : vlive v = vblk v := by
  obtain ⟨_, a, c, rfl, _⟩ := h
  cases a with
  | none => rfl
  | some a => simp [vlive, vblk]; omega
theorem Sl.pos {w : World} {k : Nat} {v : Value} {n : Nat} {xs : List Value} (h : Sl w k v n xs) {b : Nat} (e : vlive v = some b) : 0 < n := by
  obtain ⟨_, a, c, rfl, _⟩ := h
  cases a with
  | none => simp [vlive] at e
  | some a =>
    unfold vlive at e
    dsimp only at e
    by_cases h0 : n = 0
    · rw [if_pos h0] at e; cases e
    · omega

def OG.live (G : OG) (b : Nat) : Prop := b = G.mb ∨ vblk G.fuse = some b ∨ vlive G.faults = some b ∨ ∃ e ∈ G.ents, vlive e.2 = some b

theorem ObjAt.keepL {sb : Nat} {G : OG} {s : OS} {w w' : World} (h : ObjAt w sb G s) {F : Nat → Prop} (hk : Keep F w w') (hF : ∀ b, F b → b ≠ sb ∧ ¬ G.live b) : ObjAt w' sb G s := by
  refine ⟨hk.heap h.blk (fun e => (hF _ e).1 rfl), MapP.keep h.map hk (fun e => (hF _ e).2 (.inl rfl)), ?_, ?_, ?_, h.ok⟩
  · refine h.rows.imp (fun a ha b _ hab => ⟨hab.1, hab.2.keep hk (fun b' hn e hb' => (hF _ hb').2 (.inr (.inr (.inr ⟨a, ha, by rw [Sl.live hab.2 hn]; exact e⟩))))⟩)
  · exact h.fuse.keep hk (fun fb e hb' => (hF _ hb').2 (.inr (.inl (by rw [e]; rfl))))
  · exact h.faults.keep hk (fun b' hn e hb' => (hF _ hb').2 (.inr (.inr (.inl (by rw [Sl.live h.faults hn]; exact e)))))

/-- A store at block sb, with the fuse f; S bounds its blocks. -/
def St (w : World) (sb : Nat) (f : Value) (S : Nat → Prop) (s : OS) : Prop := ∃ G, ObjAt w sb G s ∧ G.fuse = f ∧ S sb ∧ (∀ b, G.live b → S b) ∧ ∀ b, S b → b < w.heap.size

/-- What a call of the store may turn, and how its blocks grow. -/
structure Turn (S S' : Nat → Prop) (w w' : World) : Prop where
  keep : Keep S w w'
  grow : ∀ b, S' b → S b ∨ w.heap.size ≤ b

theorem Turn.not {S S' : Nat → Prop} {w w' : World} (h : Turn S S' w w') {b : Nat} (hb : ¬ S b) (hl : b < w.heap.size) : ¬ S' b := fun e => (h.grow b e).elim hb (fun e => by omega)
theorem Turn.refl (S : Nat → Prop) (w : World) : Turn S S w w := ⟨Keep.refl _ _, fun _ => .inl⟩

theorem St.keep {w w' : World} {sb : Nat} {f : Value} {S : Nat → Prop} {s : OS} (h : St w sb f S s) {F : Nat → Prop} (hk : Keep F w w') (hF : ∀ b, F b → ¬ S b) : St w' sb f S s := by
  obtain ⟨G, h1, h2, h3, h4, h5⟩ := h
  exact ⟨G, h1.keepL hk (fun b e => ⟨fun e2 => hF b e (by rw [e2]; exact h3), fun e2 => hF b e (h4 b e2)⟩), h2, h3, h4, fun b e => Nat.lt_of_lt_of_le (h5 b e) hk.size⟩
theorem St.keep0 {w w' : World} {sb : Nat} {f : Value} {S : Nat → Prop} {s : OS} (h : St w sb f S s) (hk : Keep (fun _ => False) w w') : St w' sb f S s := h.keep hk (fun _ e => e.elim)
theorem St.below {w w' : World} {sb : Nat} {f : Value} {S : Nat → Prop} {s : OS} (h : St w sb f S s) (hk : Below w.heap.size w w') : St w' sb f S s := h.keep0 (Keep.of_below hk _)
theorem St.lt {w : World} {sb : Nat} {f : Value} {S : Nat → Prop} {s : OS} (h : St w sb f S s) : ∀ b, S b → b < w.heap.size := let ⟨_, _, _, _, _, h5⟩ := h; h5
theorem St.self {w : World} {sb : Nat} {f : Value} {S : Nat → Prop} {s : OS} (h : St w sb f S s) : S sb := let ⟨_, _, _, h3, _, _⟩ := h; h3
theorem St.ok {w : World} {sb : Nat} {f : Value} {S : Nat → Prop} {s : OS} (h : St w sb f S s) : s.Ok := let ⟨_, h1, _, _, _, _⟩ := h; h1.ok
theorem St.fuse {w : World} {sb : Nat} {f : Value} {S : Nat → Prop} {s : OS} (h : St w sb f S s) : FuseIs w f s.left := by
  obtain ⟨G, h1, rfl, _⟩ := h
  exact h1.fuse
theorem St.fuse_in {w : World} {sb : Nat} {f : Value} {S : Nat → Prop} {s : OS} (h : St w sb f S s) {b : Nat} (e : vblk f = some b) : S b := by
  obtain ⟨G, h1, rfl, _, h4, _⟩ := h
  exact h4 b (.inr (.inl e))
theorem St.len {w : World} {sb : Nat} {f : Value} {S : Nat → Prop} {s : OS} (h : St w sb f S s) : Calls Try.prog 14 #[.pointer (some ⟨sb, 0, none⟩)] w fun e w' => e = .returned (.int .i64 s.row.length) ∧ w = w' := let ⟨G, h1, _⟩ := h; len_any sb G s w h1

theorem live_faults {G : OG} {fv : Value} {sb sb' : Nat} {s s' : OS} {w w' : World} (hfv : vblk fv = vblk G.faults) (h : ObjAt w sb G s) {en : List (Bs × Value)} (h' : ObjAt w' sb' { G with faults := fv, ents := en } s') (hs : s'.faults.length ≤ s.faults.length) {b : Nat} (e : vlive fv = some b) : G.live b := by
  have h0 := Sl.pos h'.faults e
  refine .inr (.inr (.inl ?_))
  rw [Sl.live h.faults (by omega), ← hfv]
  exact vlive_blk e
theorem op_faults (s : OS) : s.op.faults.length ≤ s.faults.length := by unfold OS.op; simp
theorem keep_mine {sb : Nat} {G : OG} {S : Nat → Prop} {w w' : World} (h3 : S sb) (h4 : ∀ b, G.live b → S b) (hk : Keep (OG.mine sb G) w w') : Keep S w w' :=
  hk.mono (fun i _ e => by
    rcases e with rfl | rfl | e
    · exact h3
    · exact h4 _ (.inl rfl)
    · exact h4 _ (.inr (.inl e)))
theorem keep_two {sb : Nat} {G : OG} {S : Nat → Prop} {w w' : World} (h3 : S sb) (h4 : ∀ b, G.live b → S b) (hk : Keep (fun b => b = sb ∨ vblk G.fuse = some b) w w') : Keep S w w' :=
  keep_mine h3 h4 (hk.mono (fun _ _ e => e.elim .inl (fun e => .inr (.inr e))))

/-- what is live behind an operation -/
theorem live_op {S : Nat → Prop} {G : OG} {fv : Value} {sb : Nat} {s s' : OS} {w w' : World} (hfv : vblk fv = vblk G.faults) (h : ObjAt w sb G s) {en : List (Bs × Value)} (h' : ObjAt w' sb { G with faults := fv, ents := en } s') (hs : s'.faults.length ≤ s.faults.length)
    (h4 : ∀ b, G.live b → S b) {R : Nat → Prop} (hen : ∀ e ∈ en, e ∈ G.ents ∨ ∀ x, vlive e.2 = some x → R x) : ∀ b, ({ G with faults := fv, ents := en } : OG).live b → S b ∨ R b := by
  intro x hx
  unfold OG.live at hx
  dsimp only at hx
  rcases hx with e | e | e | ⟨y, hy, e⟩
  · exact .inl (h4 _ (.inl e))
  · exact .inl (h4 _ (.inr (.inl e)))
  · exact .inl (h4 _ (live_faults hfv h h' hs e))
  · rcases hen y hy with hy | hy
    · exact .inl (h4 _ (.inr (.inr (.inr ⟨y, hy, e⟩))))
    · exact .inr (hy x e)
theorem live_same {S : Nat → Prop} {G : OG} {fv : Value} {sb : Nat} {s : OS} {w w' : World} (hfv : vblk fv = vblk G.faults) (h : ObjAt w sb G s) (h' : ObjAt w' sb { G with faults := fv } s.op)
    (h4 : ∀ b, G.live b → S b) : ∀ b, ({ G with faults := fv } : OG).live b → S b := fun b hb =>
  (live_op (R := fun _ => False) hfv h h' (op_faults s) h4 (fun _ he => .inl he) b hb).elim id False.elim

def PutSt (sb : Nat) (f : Value) (S : Nat → Prop) (s : OS) (name b : Bs) (w : World) (e : Ending) (w' : World) : Prop :=
  ∃ S', e = .returned (.int .i64 (s.putCode name b)) ∧ St w' sb f S' (s.put name b) ∧ Turn S S' w w'

theorem St.put {w : World} {sb : Nat} {f : Value} {S : Nat → Prop} {s : OS} (h : St w sb f S s) (hl : s.left ≠ 0) (ho : s.ops < 4611686018427387904) (nm : ByteArray) (hnm : nm.size ≤ maxLen) (bv : Value) (b : Bs) (hb : BytesAt w bv b) (hbl : b.length ≤ 140737488355328) :
    Calls Try.prog 30 #[.pointer (some ⟨sb, 0, none⟩), .string nm, bv] w (PutSt sb f S s nm.data.toList b w) := by
  obtain ⟨G, h1, rfl, h3, h4, h5⟩ := h
  by_cases hc : s.putCode nm.data.toList b = 0
  · refine (put_ok sb G s w h1 hl ho nm hnm bv b hb hbl hc).mono ?_
    rintro e w' ⟨fv, v, rfl, hO, hfv, hv, hk⟩
    have hs : s.put nm.data.toList b = { s.op with row := putK nm.data.toList b s.row } := by unfold OS.put; rw [if_pos hc]
    refine ⟨fun x => S x ∨ vlive v = some x, by rw [hc], ⟨{ G with faults := fv, ents := putK nm.data.toList v G.ents }, by rw [hs]; exact hO, rfl, .inl h3, ?_, ?_⟩, keep_mine h3 h4 hk, ?_⟩
    · exact live_op hfv h1 hO (op_faults s) h4 (fun _ he => (mem_putK he).elim (fun e1 => .inr (fun x hx => by rw [e1] at hx; exact hx)) .inl)
    · rintro x (hx | hx)
      · exact Nat.lt_of_lt_of_le (h5 x hx) hk.size
      · have hlk := lk_putK_same nm.data.toList v G.ents
        rcases lk_step hO.rows nm.data.toList with ⟨e1, _⟩ | ⟨v1, l1, e1, e2, e3⟩
        · rw [hlk] at e1; cases e1
        · rw [hlk] at e1; cases e1
          exact Sl.lt e3 (by decide) (Sl.pos e3 hx) (vlive_blk hx)
    · rintro x (hx | hx)
      · exact .inl hx
      · exact .inr (hv x (vlive_blk hx))
  · refine (put_no sb G s w h1 hl ho nm hnm bv b hb hbl hc).mono ?_
    rintro e w' ⟨fv, rfl, hO, hfv, hk⟩
    have hs : s.put nm.data.toList b = s.op := by unfold OS.put; rw [if_neg hc]
    exact ⟨S, rfl, ⟨{ G with faults := fv }, by rw [hs]; exact hO, rfl, h3, live_same hfv h1 hO h4, fun x hx => Nat.lt_of_lt_of_le (h5 x hx) hk.size⟩, keep_two h3 h4 hk, fun _ => .inl⟩

theorem St.put_blow {w : World} {sb fb : Nat} {S : Nat → Prop} {s : OS} (h : St w sb (.pointer (some ⟨fb, 0, none⟩)) S s) (hl : s.left = 0) (nm : ByteArray) (a : Option Addr) (n c : Nat) :
    Calls Try.prog 30 #[.pointer (some ⟨sb, 0, none⟩), .string nm, .slice a n c] w fun e w' => e = .panicked (blowChain fb) ∧ Keep (fun _ => False) w w' := by
  obtain ⟨G, h1, h2, h3, h4, h5⟩ := h
  obtain ⟨fb', e, hC⟩ := Ytlajejbglpggeaa.put_blow sb G s w h1 hl nm a n c
  rw [h2] at e; cases e
  exact hC

def GetSt (sb : Nat) (f : Value) (S : Nat → Prop) (s : OS) (name : Bs) (w : World) (e : Ending) (w' : World) : Prop :=
  ∃ v, e = .returned (.tuple #[v, .int .i64 (s.getCode name)]) ∧ St w' sb f S s.op ∧ Turn S S w w' ∧ w'.ownsRow w.heap.size 5 1 v (s.getBytes name).length (bytesV (s.getBytes name))

theorem St.get {w : World} {sb : Nat} {f : Value} {S : Nat → Prop} {s : OS} (h : St w sb f S s) (hl : s.left ≠ 0) (ho : s.ops < 4611686018427387904) (nm : ByteArray) (hnm : nm.size ≤ maxLen) :
    Calls Try.prog 41 #[.pointer (some ⟨sb, 0, none⟩), .string nm] w (GetSt sb f S s nm.data.toList w) := by
  obtain ⟨G, h1, rfl, h3, h4, h5⟩ := h
  refine (get_go sb G s w h1 hl ho nm hnm).mono ?_
  rintro e w' ⟨fv, v, rfl, hO, hfv, hb, hk⟩
  exact ⟨v, rfl, ⟨{ G with faults := fv }, hO, rfl, h3, live_same hfv h1 hO h4, fun x hx => Nat.lt_of_lt_of_le (h5 x hx) hk.size⟩, ⟨keep_two h3 h4 hk, fun _ => .inl⟩, hb⟩
theorem St.get_blow {w : World} {sb fb : Nat} {S : Nat → Prop} {s : OS} (h : St w sb (.pointer (some ⟨fb, 0, none⟩)) S s) (hl : s.left = 0) (nm : ByteArray) :
    Calls Try.prog 41 #[.pointer (some ⟨sb, 0, none⟩), .string nm] w fun e w' => e = .panicked (blowChain fb) ∧ Keep (fun _ => False) w w' := by
  obtain ⟨G, h1, h2, h3, h4, h5⟩ := h
  obtain ⟨fb', e, hC⟩ := Ytlajejbglpggeaa.get_blow sb G s w h1 hl nm
  rw [h2] at e; cases e
  exact hC

def DropSt (sb : Nat) (f : Value) (S : Nat → Prop) (s : OS) (name : Bs) (w : World) (e : Ending) (w' : World) : Prop :=
  e = .returned (.int .i64 (s.getCode name)) ∧ St w' sb f S (s.drop name) ∧ Turn S S w w'

theorem drop_faults (s : OS) (name : Bs) : (s.drop name).faults.length ≤ s.faults.length := by
  unfold OS.drop
  split <;> exact op_faults s
theorem St.drop {w : World} {sb : Nat} {f : Value} {S : Nat → Prop} {s : OS} (h : St w sb f S s) (hl : s.left ≠ 0) (ho : s.ops < 4611686018427387904) (nm : ByteArray) (hnm : nm.size ≤ maxLen) :
    Calls Try.prog 29 #[.pointer (some ⟨sb, 0, none⟩), .string nm] w (DropSt sb f S s nm.data.toList w) := by
  obtain ⟨G, h1, rfl, h3, h4, h5⟩ := h
  refine (drop_go sb G s w h1 hl ho nm hnm).mono ?_
  rintro e w' ⟨fv, en, rfl, hO, hfv, hen, hk⟩
  exact ⟨rfl, ⟨{ G with faults := fv, ents := en }, hO, rfl, h3, fun b hb => (live_op (R := fun _ => False) hfv h1 hO (drop_faults s _) h4 (fun e he => .inl (hen e he)) b hb).elim id False.elim, fun x hx => Nat.lt_of_lt_of_le (h5 x hx) hk.size⟩, keep_mine h3 h4 hk, fun _ => .inl⟩
theorem St.drop_blow {w : World} {sb fb : Nat} {S : Nat → Prop} {s : OS} (h : St w sb (.pointer (some ⟨fb, 0, none⟩)) S s) (hl : s.left = 0) (nm : ByteArray) :
    Calls Try.prog 29 #[.pointer (some ⟨sb, 0, none⟩), .string nm] w fun e w' => e = .panicked (blowChain fb) ∧ Keep (fun _ => False) w w' := by
  obtain ⟨G, h1, h2, h3, h4, h5⟩ := h
  obtain ⟨fb', e, hC⟩ := Ytlajejbglpggeaa.drop_blow sb G s w h1 hl nm
  rw [h2] at e; cases e
  exact hC

def OS.listed (s : OS) (p : Bs) : List Bs := if s.code = 0 then s.names p else []
/-- A slice of texts. -/
def StrsAt (w : World) (v : Value) (l : List Bs) : Prop := Sl w 1 v l.length (l.map strV)

def ListSt (sb : Nat) (f : Value) (S : Nat → Prop) (s : OS) (p : Bs) (w : World) (e : Ending) (w' : World) : Prop :=
  ∃ v, e = .returned (.tuple #[v, .int .i64 s.code]) ∧ St w' sb f S s.op ∧ Turn S S w w' ∧ StrsAt w' v (s.listed p) ∧ ∀ x, vblk v = some x → w.heap.size ≤ x

theorem St.list {w : World} {sb : Nat} {f : Value} {S : Nat → Prop} {s : OS} (h : St w sb f S s) (hl : s.left ≠ 0) (ho : s.ops < 4611686018427387904) (p : ByteArray) :
    Calls Try.prog 40 #[.pointer (some ⟨sb, 0, none⟩), .string p] w (ListSt sb f S s p.data.toList w) := by
  obtain ⟨G, h1, rfl, h3, h4, h5⟩ := h
  refine (list_go sb G s w h1 hl ho p).mono ?_
  rintro e w' ⟨fv, v, rfl, hO, hfv, hb, hv, hk⟩
  exact ⟨v, rfl, ⟨{ G with faults := fv }, hO, rfl, h3, live_same hfv h1 hO h4, fun x hx => Nat.lt_of_lt_of_le (h5 x hx) hk.size⟩, ⟨keep_two h3 h4 hk, fun _ => .inl⟩, hb, hv⟩
theorem St.list_blow {w : World} {sb fb : Nat} {S : Nat → Prop} {s : OS} (h : St w sb (.pointer (some ⟨fb, 0, none⟩)) S s) (hl : s.left = 0) (p : ByteArray) :
    Calls Try.prog 40 #[.pointer (some ⟨sb, 0, none⟩), .string p] w fun e w' => e = .panicked (blowChain fb) ∧ Keep (fun _ => False) w w' := by
  obtain ⟨G, h1, h2, h3, h4, h5⟩ := h
  obtain ⟨fb', e, hC⟩ := Ytlajejbglpggeaa.list_blow sb G s w h1 hl p
  rw [h2] at e; cases e
  exact hC
end Go.Proofs.Ytlajejbglpggeaa
