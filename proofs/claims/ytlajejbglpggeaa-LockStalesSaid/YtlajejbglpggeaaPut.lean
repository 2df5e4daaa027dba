/-
  object.Put.
-/
import Derived.Test.YtlajejbglpggeaaObjOp
import Derived.Test.YtlajejbglpggeaaObj0
import Derived.Deep.RegionHeld3
namespace Go.Proofs.Ytlajejbglpggeaa
open Go.RowKit Go.Proofs Go.Lib

theorem put1_any (w : World) (bn : Nat) (nm : ByteArray) (hc : w.cell? ⟨bn, 0, none⟩ = some (.string nm)) :
    Calls Try.prog 45 #[.pointer (some ⟨bn, 0, none⟩)] w (RightPost nm w) := by
  go_enter Try.func45, Try.ntmps45
  go_wp2_with (go_at_call 46; refine (right_any _ _).mono ?_; rintro e w' ⟨rfl, hbl⟩)
  go_ret
  exact ⟨rfl, hbl⟩

theorem put2_any (sb : Nat) (G : OG) (s : OS) (w : World) (hS : ObjAt w sb G s) (nm : ByteArray) (hnm : nm.size ≤ maxLen) (bv : Value) (b : Bs) (hb : BytesAt w bv b) (hbl : b.length ≤ 140737488355328) (p0 p1 p2 : Nat)
    (h0 : w.cell? ⟨p0, 0, none⟩ = some (.pointer (some ⟨sb, 0, none⟩))) (h1 : w.cell? ⟨p1, 0, none⟩ = some (.string nm)) (h2 : w.cell? ⟨p2, 0, none⟩ = some bv) :
    Calls Try.prog 47 #[.pointer (some ⟨p0, 0, none⟩), .pointer (some ⟨p1, 0, none⟩), .pointer (some ⟨p2, 0, none⟩)] w (CodePost (s.roomCode nm.data.toList b) w) := by
  have HC := room_any sb G s w hS nm hnm bv b hb hbl
  clear hS hb
  go_enter Try.func47, Try.ntmps47
  go_wp2_with (go_at_call 48; refine HC.mono ?_; rintro e w' ⟨rfl, hq⟩)
  go_ret
  exact ⟨rfl, hq⟩

def OS.putCode (s : OS) (name b : Bs) : Int :=
  if s.code ≠ 0 then s.code else if nameOK name = false then 37 else s.roomCode name b
def OS.put (s : OS) (name b : Bs) : OS :=
  if s.putCode name b = 0 then { s.op with row := putK name b s.row } else s.op

def OG.foot (G : OG) (b : Nat) : Prop := b = G.mb ∨ vblk G.fuse = some b ∨ vblk G.faults = some b ∨ ∃ e ∈ G.ents, vblk e.2 = some b
/-- what an operation may turn -/
def OG.mine (sb : Nat) (G : OG) (b : Nat) : Prop := b = sb ∨ b = G.mb ∨ vblk G.fuse = some b

theorem ObjAt.keep {sb : Nat} {G : OG} {s : OS} {w w' : World} (h : ObjAt w sb G s) {F : Nat → Prop} (hk : Keep F w w') (hF : ∀ b, F b → b ≠ sb ∧ ¬ G.foot b) : ObjAt w' sb G s := by
  refine ⟨hk.heap h.blk (fun e => (hF _ e).1 rfl), MapP.keep h.map hk (fun e => (hF _ e).2 (.inl rfl)), ?_, ?_, ?_, h.ok⟩
  · refine h.rows.imp (fun a ha b _ hab => ⟨hab.1, hab.2.keep hk (fun b' _ e hb' => (hF _ hb').2 (.inr (.inr (.inr ⟨a, ha, e⟩))))⟩)
  · exact h.fuse.keep hk (fun fb e hb' => (hF _ hb').2 (.inr (.inl (by rw [e]; rfl))))
  · exact h.faults.keep hk (fun b' _ e hb' => (hF _ hb').2 (.inr (.inr (.inl e))))
theorem ObjAt.keep0 {sb : Nat} {G : OG} {s : OS} {w w' : World} (h : ObjAt w sb G s) (hk : Keep (fun _ => False) w w') : ObjAt w' sb G s := h.keep hk (fun _ e => e.elim)
theorem ObjAt.below {sb : Nat} {G : OG} {s : OS} {w w' : World} (h : ObjAt w sb G s) (hk : Below w.heap.size w w') : ObjAt w' sb G s := h.keep0 (Keep.of_below hk _)
theorem ObjAt.fuse_lt {sb : Nat} {G : OG} {s : OS} {w : World} (h : ObjAt w sb G s) : ∀ x, vblk G.fuse = some x → x < w.heap.size := by
  intro x e
  rcases h.fuse with ⟨e1, _⟩ | ⟨fb, e1, hF⟩
  · rw [e1] at e; simp [vblk] at e
  · rw [e1] at e; simp [vblk] at e; subst e; exact lt_blk hF.1

def putClos (sb p : Nat) : List Clo :=
  [⟨43, #[.pointer (some ⟨sb, 0, none⟩)], #[]⟩, ⟨45, #[], #[.pointer (some ⟨p + 1, 0, none⟩)]⟩, ⟨47, #[], #[.pointer (some ⟨p, 0, none⟩), .pointer (some ⟨p + 1, 0, none⟩), .pointer (some ⟨p + 1 + 1, 0, none⟩)]⟩]

/-- the boxes that Put lays -/
structure PutBoxes (sb p : Nat) (nm : ByteArray) (bv : Value) (W : World) : Prop where
  b0 : W.heap[p]? = some (.cells #[.pointer (some ⟨sb, 0, none⟩)] 28 (0, 0))
  b1 : W.heap[p + 1]? = some (.cells #[.string nm] 9 (0, 0))
  b2 : W.heap[p + 1 + 1]? = some (.cells #[bv] 27 (0, 0))
  b3 : W.heap[p + 1 + 1 + 1]? = some (.cells #[.func (.func 43) #[.pointer (some ⟨sb, 0, none⟩)] #[], .func (.func 45) #[] #[.pointer (some ⟨p + 1, 0, none⟩)],
      .func (.func 47) #[] #[.pointer (some ⟨p, 0, none⟩), .pointer (some ⟨p + 1, 0, none⟩), .pointer (some ⟨p + 1 + 1, 0, none⟩)]] 82 (0, 0))

theorem PutBoxes.keep {sb p : Nat} {nm : ByteArray} {bv : Value} {W W' : World} (h : PutBoxes sb p nm bv W) {F : Nat → Prop} (k : Keep F W W') (hF : ∀ b, F b → b < p) : PutBoxes sb p nm bv W' :=
  ⟨k.heap h.b0 (fun e => by have := hF _ e; omega), k.heap h.b1 (fun e => by have := hF _ e; omega), k.heap h.b2 (fun e => by have := hF _ e; omega), k.heap h.b3 (fun e => by have := hF _ e; omega)⟩

theorem PutBoxes.lies {sb p : Nat} {nm : ByteArray} {bv : Value} {W : World} (h : PutBoxes sb p nm bv W) : Lies (putClos sb p) (p + 1 + 1 + 1) 0 W := by
  intro j c' hj
  rw [cell_blk h.b3, Nat.zero_add]
  match j with
  | 0 => simp [putClos] at hj; subst hj; rfl
  | 1 => simp [putClos] at hj; subst hj; rfl
  | 2 => simp [putClos] at hj; subst hj; rfl
  | j + 3 => simp [putClos] at hj

def PutQ (sb : Nat) (G : OG) (s : OS) (name b : Bs) (W : World) (e : Ending) (w' : World) : Prop :=
  ∃ (i : Nat) (fv : Value), e = .returned (.tuple #[.int .i64 i, .int .i64 (s.putCode name b)]) ∧ ObjAt w' sb { G with faults := fv } s.op ∧ vblk fv = vblk G.faults ∧ Keep (fun b => b = sb ∨ vblk G.fuse = some b) W w'

theorem put_steps (sb : Nat) (G : OG) (s : OS) (W : World) (hS : ObjAt W sb G s) (hl : s.left ≠ 0) (ho : s.ops < 4611686018427387904) (nm : ByteArray) (hnm : nm.size ≤ maxLen) (bv : Value) (b : Bs) (hb : BytesAt W bv b) (hbl : b.length ≤ 140737488355328)
    (p : Nat) (hsb : sb < p) (hfu : ∀ x, vblk G.fuse = some x → x < p) (hB : PutBoxes sb p nm bv W) :
    AllRun (p + 1 + 1 + 1) 0 (putClos sb p) (PutQ sb G s nm.data.toList b W)
      [⟨43, #[.pointer (some ⟨sb, 0, none⟩)], #[]⟩, ⟨45, #[], #[.pointer (some ⟨p + 1, 0, none⟩)]⟩, ⟨47, #[], #[.pointer (some ⟨p, 0, none⟩), .pointer (some ⟨p + 1, 0, none⟩), .pointer (some ⟨p + 1 + 1, 0, none⟩)]⟩] 0 W := by
  have hF : ∀ x, (x = sb ∨ vblk G.fuse = some x) → x < p := fun x e => e.elim (fun e => by omega) (hfu x)
  refine allRun_cons (args := #[.pointer (some ⟨sb, 0, none⟩)]) rfl ?_
  refine (op_go sb G s W hS hl ho).mono ?_
  rintro e w1 ⟨fv, rfl, hO1, hfv, hk1⟩
  have hB1 := hB.keep hk1 hF
  by_cases hc : s.code = 0
  · refine .inr (.inl ⟨by rw [hc], hB1.lies, ?_⟩)
    refine allRun_cons (args := #[.pointer (some ⟨p + 1, 0, none⟩)]) rfl ?_
    refine (put1_any w1 (p + 1) nm (by rw [cell_blk hB1.b1]; rfl)).mono ?_
    rintro e w2 ⟨rfl, hbl2⟩
    have hk2 : Keep (fun b => b = sb ∨ vblk G.fuse = some b) W w2 := hk1.trans (Keep.of_below hbl2 _)
    have hO2 := hO1.below hbl2
    have hB2 := hB.keep hk2 hF
    unfold rightCode
    by_cases hn : nameOK nm.data.toList = true
    · rw [if_pos hn]
      refine .inr (.inl ⟨rfl, hB2.lies, ?_⟩)
      refine allRun_cons (args := #[.pointer (some ⟨p, 0, none⟩), .pointer (some ⟨p + 1, 0, none⟩), .pointer (some ⟨p + 1 + 1, 0, none⟩)]) rfl ?_
      have hb2 : BytesAt w2 bv b := by
        refine Sl.keep hb hk2 (fun x hn e hx => ?_)
        rcases hx with rfl | hx
        · refine BytesAt.ne_cells hb hS.blk (fun y i => ?_) hn e
          obtain ⟨_, a1, c1, e3, _⟩ := hS.faults
          rcases hS.fuse with ⟨e1, _⟩ | ⟨fb, e1, _⟩ <;> rw [e1, e3] <;>
            (match i with
             | 0 | 1 | 2 | 3 | 4 | 5 => simp
             | i + 6 => simp)
        · rcases hS.fuse with ⟨e1, _⟩ | ⟨fb, e1, hF1⟩
          · rw [e1] at hx; simp [vblk] at hx
          · rw [e1] at hx; simp [vblk] at hx; subst hx
            refine BytesAt.ne_cells hb hF1.1 (fun y i => ?_) hn e
            match i with
            | 0 => simp
            | i + 1 => simp
      refine (put2_any sb _ s.op w2 hO2 nm hnm bv b hb2 hbl p (p + 1) (p + 1 + 1) (by rw [cell_blk hB2.b0]; rfl) (by rw [cell_blk hB2.b1]; rfl) (by rw [cell_blk hB2.b2]; rfl)).mono ?_
      rintro e w3 ⟨rfl, q, rfl⟩
      have hk3 := hk2.drewN q
      have hO3 := hO2.keep0 ((Keep.refl _ _).drewN q)
      have hcode : s.putCode nm.data.toList b = s.op.roomCode nm.data.toList b := by
        unfold OS.putCode
        rw [if_neg (by simpa using hc), if_neg (by simp [hn])]; rfl
      by_cases hr : s.op.roomCode nm.data.toList b = 0
      · exact .inr (.inl ⟨by rw [hr], (hB.keep hk3 hF).lies, 3, fv, by rw [hcode, hr], hO3, hfv, hk3⟩)
      · exact .inl ⟨_, rfl, hr, 2, fv, by rw [hcode], hO3, hfv, hk3⟩
    · rw [if_neg hn]
      refine .inl ⟨37, rfl, by decide, 1, fv, ?_, hO2, hfv, hk2⟩
      unfold OS.putCode
      rw [if_neg (by simpa using hc), if_pos (by simpa using hn)]
  · refine .inl ⟨_, rfl, hc, 0, fv, ?_, hO1, hfv, hk1⟩
    unfold OS.putCode
    rw [if_pos hc]

def putW (w : World) (sb : Nat) (nm : ByteArray) (bv : Value) : World :=
  (((w.alloc (.cells #[.pointer (some ⟨sb, 0, none⟩)] 28)).alloc (.cells #[.string nm] 9)).alloc (.cells #[bv] 27)).alloc
    (.cells #[.func (.func 43) #[.pointer (some ⟨sb, 0, none⟩)] #[], .func (.func 45) #[] #[.pointer (some ⟨w.heap.size + 1, 0, none⟩)],
      .func (.func 47) #[] #[.pointer (some ⟨w.heap.size, 0, none⟩), .pointer (some ⟨w.heap.size + 1, 0, none⟩), .pointer (some ⟨w.heap.size + 1 + 1, 0, none⟩)]] 82)

theorem putW_boxes (w : World) (sb : Nat) (nm : ByteArray) (bv : Value) : PutBoxes sb w.heap.size nm bv (putW w sb nm bv) := by
  unfold putW
  refine ⟨alloc_blk (alloc_blk (alloc_blk (alloc_new _ _) _) _) _, ?_, ?_, ?_⟩
  · have := alloc_new (w.alloc (.cells #[.pointer (some ⟨sb, 0, none⟩)] 28)) (.cells #[.string nm] 9)
    rw [World.size_alloc] at this
    exact alloc_blk (alloc_blk this _) _
  · have := alloc_new ((w.alloc (.cells #[.pointer (some ⟨sb, 0, none⟩)] 28)).alloc (.cells #[.string nm] 9)) (.cells #[bv] 27)
    rw [World.size_alloc, World.size_alloc] at this
    exact alloc_blk this _
  · have := alloc_new (((w.alloc (.cells #[.pointer (some ⟨sb, 0, none⟩)] 28)).alloc (.cells #[.string nm] 9)).alloc (.cells #[bv] 27)) (.cells #[.func (.func 43) #[.pointer (some ⟨sb, 0, none⟩)] #[], .func (.func 45) #[] #[.pointer (some ⟨w.heap.size + 1, 0, none⟩)],
      .func (.func 47) #[] #[.pointer (some ⟨w.heap.size, 0, none⟩), .pointer (some ⟨w.heap.size + 1, 0, none⟩), .pointer (some ⟨w.heap.size + 1 + 1, 0, none⟩)]] 82)
    rw [World.size_alloc, World.size_alloc, World.size_alloc] at this
    exact this
theorem putW_keep (w : World) (sb : Nat) (nm : ByteArray) (bv : Value) : Keep (fun _ => False) w (putW w sb nm bv) := ((((Keep.refl _ w).alloc _).alloc _).alloc _).alloc _

theorem putClos_enters (sb p : Nat) : ∀ c ∈ putClos sb p, Enters Try.prog c.g := by
  intro c hc
  simp only [putClos, List.mem_cons, List.not_mem_nil, or_false] at hc
  rcases hc with rfl | rfl | rfl
  · exact enters_of Try.func43 (by kernel_rfl) rfl
  · exact enters_of Try.func45 (by kernel_rfl) rfl
  · exact enters_of Try.func47 (by kernel_rfl) rfl

/-- Put as its steps leave it. -/
theorem put_all (sb : Nat) (G : OG) (s : OS) (w : World) (hS : ObjAt w sb G s) (hl : s.left ≠ 0) (ho : s.ops < 4611686018427387904) (nm : ByteArray) (hnm : nm.size ≤ maxLen) (bv : Value) (b : Bs) (hb : BytesAt w bv b) (hbl : b.length ≤ 140737488355328) :
    Calls Try.prog 44 #[.slice (some ⟨w.heap.size + 1 + 1 + 1, 0, none⟩) 3 3] (putW w sb nm bv) (PutQ sb G s nm.data.toList b (putW w sb nm bv)) :=
  gall_any (putClos sb w.heap.size) (putClos_enters _ _) _ _ _ _ (putW_boxes w sb nm bv).lies (by simp [putClos]) _
    (put_steps sb G s _ (hS.keep0 (putW_keep w sb nm bv)) hl ho nm hnm bv b (Sl.keep hb (putW_keep w sb nm bv) (fun _ _ _ e => e)) hbl w.heap.size (lt_blk hS.blk) hS.fuse_lt (putW_boxes w sb nm bv))

/-- Put where a step has an error. -/
def PutNo (sb : Nat) (G : OG) (s : OS) (c : Int) (w : World) (e : Ending) (w' : World) : Prop :=
  ∃ fv, e = .returned (.int .i64 c) ∧ ObjAt w' sb { G with faults := fv } s.op ∧ vblk fv = vblk G.faults ∧ Keep (fun b => b = sb ∨ vblk G.fuse = some b) w w'

theorem put_no (sb : Nat) (G : OG) (s : OS) (w : World) (hS : ObjAt w sb G s) (hl : s.left ≠ 0) (ho : s.ops < 4611686018427387904) (nm : ByteArray) (hnm : nm.size ≤ maxLen) (bv : Value) (b : Bs) (hb : BytesAt w bv b) (hbl : b.length ≤ 140737488355328)
    (hc : s.putCode nm.data.toList b ≠ 0) :
    Calls Try.prog 30 #[.pointer (some ⟨sb, 0, none⟩), .string nm, bv] w (PutNo sb G s (s.putCode nm.data.toList b) w) := by
  have hmf : ∀ (fn : Fn) (first cap : Array Value) (w : World), (Instr.makeFunc fn first cap).run Try.prog w = .ok (.func fn first cap) w := fun _ _ _ _ => rfl
  have HC := put_all sb G s w hS hl ho nm hnm bv b hb hbl
  have hk := putW_keep w sb nm bv
  obtain ⟨a, n, c, rfl⟩ : ∃ a n c, bv = .slice a n c := let ⟨_, a, c, e, _⟩ := hb; ⟨a, _, c, e⟩
  obtain ⟨C, hC⟩ : ∃ C, C = s.putCode nm.data.toList b := ⟨_, rfl⟩
  rw [← hC] at hc ⊢
  have hcz : (C == 0) = false := by simpa using hc
  have HCC := Lib.hid hC; clear hC hc hb hS
  go_enter Try.func30, Try.ntmps30
  go_wp2_with (go_at_call 44; refine HC.mono ?_; rintro e w1 ⟨i, fv, rfl, hO, hfv, hk1⟩; rw [← HCC.out])
  go_ret
  exact ⟨fv, rfl, hO, hfv, (hk.mono (fun _ _ e => e.elim)).trans hk1⟩

theorem put_room {s : OS} {name b : Bs} (hc : s.putCode name b = 0) :
    s.code = 0 ∧ nameOK name = true ∧ b.length ≤ 1048576 ∧ (b.length : Int) ≤ s.quota - sizeR s.row + ((lk s.row name).getD []).length ∧ ((lk s.row name).isSome = true ∨ s.row.length ≠ 4096) := by
  unfold OS.putCode at hc
  by_cases h1 : s.code = 0
  · rw [if_neg (by simpa using h1)] at hc
    by_cases h2 : nameOK name = false
    · rw [if_pos h2] at hc; omega
    · rw [if_neg h2] at hc
      unfold OS.roomCode at hc
      by_cases h3 : b.length > 1048576
      · rw [if_pos h3] at hc; omega
      · rw [if_neg h3] at hc
        by_cases h4 : (b.length : Int) > s.quota - sizeR s.row + ((lk s.row name).getD []).length
        · rw [if_pos h4] at hc; omega
        · rw [if_neg h4] at hc
          by_cases h5 : (lk s.row name).isNone = true ∧ s.row.length = 4096
          · rw [if_pos h5] at hc; omega
          · refine ⟨h1, by simpa using h2, by omega, by omega, ?_⟩
            cases h : lk s.row name with
            | none => exact .inr (fun e => h5 ⟨by rw [h]; rfl, e⟩)
            | some l => exact .inl rfl
  · rw [if_pos (by simpa using h1)] at hc; omega

/-- what the rest of Put reads, behind the steps -/
structure PutCells (sb p mb : Nat) (nm : ByteArray) (bv : Value) (Z : Int) (W : World) : Prop where
  d0 : W.cell? ⟨p, 0, none⟩ = some (.pointer (some ⟨sb, 0, none⟩))
  d1 : W.cell? ⟨p + 1, 0, none⟩ = some (.string nm)
  d2 : W.cell? ⟨p + 1 + 1, 0, none⟩ = some bv
  c0 : W.cell? ⟨sb, 0, none⟩ = some (.map (some mb))
  c2 : W.cell? ⟨sb, 2, none⟩ = some (.int .i64 Z)
  f2 : W.frozen? ⟨sb, 2, none⟩ = false

/-- the world behind 's.bytes += ..' -/
def putX (w1 : World) (sb : Nat) (z : Int) : World := w1.setCell ⟨sb, 2, none⟩ (.int .i64 z)

/-- what is known behind slices.Clone -/
theorem put_behind {sb : Nat} {G : OG} {s : OS} {fv : Value} {w w1 w2 : World} {nm : ByteArray} {bv : Value} (hO : ObjAt w1 sb { G with faults := fv } s) (hbx1 : PutBoxes sb w.heap.size nm bv w1) (hsb : sb < w.heap.size) (z : Int) (hnm : nm.size ≤ maxLen) (v : Value)
    (h2 : ∀ k, k < w1.heap.size → w2.heap[k]? = (putX w1 sb z).heap[k]?) :
    w2.cell? ⟨w.heap.size, 0, none⟩ = some (.pointer (some ⟨sb, 0, none⟩)) ∧ w2.cell? ⟨w.heap.size + 1, 0, none⟩ = some (.string nm) ∧ w2.cell? ⟨w.heap.size + 1 + 1, 0, none⟩ = some bv ∧ w2.cell? ⟨sb, 0, none⟩ = some (.map (some G.mb)) ∧
    ∃ w3, (Instr.mapUpdate 56 (.map (some G.mb)) (.string nm) v).run Try.prog w2 = .ok () w3 ∧ MapAt w3 G.mb (putK nm.data.toList v G.ents) ∧ Keep (· = G.mb) w2 w3 ∧
      w3.cell? ⟨w.heap.size, 0, none⟩ = some (.pointer (some ⟨sb, 0, none⟩)) ∧ w3.cell? ⟨w.heap.size + 1, 0, none⟩ = some (.string nm) ∧ w3.cell? ⟨w.heap.size + 1 + 1, 0, none⟩ = some bv ∧ w3.cell? ⟨sb, 0, none⟩ = some (.map (some G.mb)) := by
  have hx : ∀ k o, k ≠ sb → w1.heap[k]? = some o → w2.heap[k]? = some o := fun k o hk ho => (h2 k (lt_blk ho)).trans (set_other ho hk _)
  have hmb := MapP.ne hO.map hO.blk
  have hm2 : MapAt w2 G.mb G.ents := by
    obtain ⟨es, clock, hb, r⟩ := hO.map
    exact ⟨es, clock, hx _ _ hmb hb, r⟩
  have k0 := hx _ _ (by omega) hbx1.b0
  have k1 := hx _ _ (by omega) hbx1.b1
  have k2 := hx _ _ (by omega) hbx1.b2
  have k3 : w2.heap[sb]? = _ := (h2 sb (lt_blk hO.blk)).trans (set_blk hO.blk 2 _)
  refine ⟨by rw [cell_blk k0]; rfl, by rw [cell_blk k1]; rfl, by rw [cell_blk k2]; rfl, by rw [cell_blk k3]; simp, ?_⟩
  obtain ⟨w3, hrun, hm3, hk3⟩ := MapP.update Try.underlying9 Try.underlying56 hm2 nm hnm (by
    have h1 := hO.rows.length
    have h3 := hO.ok.many
    dsimp only at h1
    unfold maxLen; omega) v
  refine ⟨w3, hrun, hm3, hk3, ?_, ?_, ?_, ?_⟩
  · rw [cell_blk (hk3.heap k0 (fun e => MapP.ne hm2 k0 e.symm))]; rfl
  · rw [cell_blk (hk3.heap k1 (fun e => MapP.ne hm2 k1 e.symm))]; rfl
  · rw [cell_blk (hk3.heap k2 (fun e => MapP.ne hm2 k2 e.symm))]; rfl
  · rw [cell_blk (hk3.heap k3 (fun e => MapP.ne hm2 k3 e.symm))]; simp

/-- The store behind Put. -/
theorem put_store {sb : Nat} {G : OG} {s : OS} {fv : Value} {w1 w2 w3 : World} {name b : Bs} (hO : ObjAt w1 sb { G with faults := fv } s) {z : Int} (hz : z = sizeR (putK name b s.row)) {v : Value}
    (hname : nameOK name = true) (hbl : b.length ≤ 1048576) (hsz : (sizeR (putK name b s.row) : Int) ≤ s.quota) (hmany : (putK name b s.row).length ≤ 4096)
    (h2 : Keep (fun _ => False) (putX w1 sb z) w2) (hv : BytesAt w2 v b) (hvf : ∀ x, vblk v = some x → w1.heap.size ≤ x) (hm3 : MapAt w3 G.mb (putK name v G.ents)) (hk3 : Keep (· = G.mb) w2 w3) :
    ObjAt w3 sb { G with faults := fv, ents := putK name v G.ents } { s with row := putK name b s.row } := by
  have hmb := MapP.ne hO.map hO.blk
  have hkx : Keep (· = sb) w1 (putX w1 sb z) := (Keep.refl (· = sb) w1).setCell (p := ⟨sb, 2, none⟩) (fun _ => rfl) _
  have hk13 : Keep (fun x => x = sb ∨ x = G.mb) w1 w3 := (hkx.trans' h2 (H := fun x => x = sb ∨ x = G.mb) (fun _ _ e => .inl e) (fun _ _ e => e.elim)).trans' hk3 (fun _ _ e => e) (fun _ _ e => .inr e)
  have hb3 : w3.heap[sb]? = some (.cells #[.map (some G.mb), .int .i64 s.quota, .int .i64 z, .int .i64 s.ops, G.fuse, fv] 59 (0, 0)) := by
    have h0 := set_blk hO.blk 2 (.int .i64 z)
    have h1 := h2.heap (b := sb) h0 (fun e => e)
    have h4 := hk3.heap h1 (fun e => hmb e.symm)
    rw [h4]; simp
  have hbyte : ∀ (e : Value) (l : Bs), BytesAt w1 e l → BytesAt w3 e l := by
    intro e l he
    refine Sl.keep he hk13 (fun x hn ex hx => ?_)
    rcases hx with rfl | rfl
    · refine BytesAt.ne_cells he hO.blk (fun y i => ?_) hn ex
      obtain ⟨_, a1, c1, e3, _⟩ := hO.faults
      dsimp only at e3
      rcases hO.fuse with ⟨e1, _⟩ | ⟨fb, e1, _⟩ <;> dsimp only at e1 <;> rw [e1, e3] <;>
        (match i with
         | 0 | 1 | 2 | 3 | 4 | 5 => simp
         | i + 6 => simp)
    · obtain ⟨es, clock, ho⟩ := MapP.obj hO.map
      exact Sl.ne_other he (by decide) ho (fun _ _ _ e => by cases e) hn ex
  refine ⟨by rw [hb3, hz], hm3, ?_, ?_, ?_, ⟨hO.ok.quota, hsz, hO.ok.ops, rising_putK hO.ok.rising, ?_, hmany⟩⟩
  · refine All2.insK (fun _ _ h => h.1) ⟨rfl, Sl.keep hv hk3 (fun x hn ex hx => ?_)⟩ (All2.delK (fun _ _ h => h.1) (hO.rows.imp (fun a _ b _ hab => ⟨hab.1, hbyte _ _ hab.2⟩)))
    have := hvf x ex
    have h5 := MapP.lt hO.map
    dsimp only at h5
    omega
  · refine hO.fuse.keep hk13 (fun fb e hx => ?_)
    rcases hO.fuse with ⟨e1, _⟩ | ⟨fb', e1, hF⟩
    · rw [e1] at e; cases e
    · rw [e1] at e; cases e
      rcases hx with rfl | rfl
      · have := hF.1.symm.trans hO.blk; simp at this
      · exact MapP.ne hO.map hF.1 rfl
  · refine Sl.keep hO.faults hk13 (fun x hn ex hx => ?_)
    have hx0 : ∀ y, (s.faults.map Value.bool)[0]? = some y → ∃ t, y = .bool t := by
      intro y hy
      cases hf : s.faults with
      | nil => rw [hf] at hy; simp at hy
      | cons t r => rw [hf] at hy; simp at hy; exact ⟨t, hy.symm⟩
    rcases hx with rfl | rfl
    · refine Sl.ne_cells hO.faults (by decide) hO.blk (fun y hy i => ?_) hn ex
      obtain ⟨t, rfl⟩ := hx0 y hy
      obtain ⟨_, a1, c1, e3, _⟩ := hO.faults
      dsimp only at e3
      rcases hO.fuse with ⟨e1, _⟩ | ⟨fb, e1, _⟩ <;> dsimp only at e1 <;> rw [e1, e3] <;>
        (match i with
         | 0 | 1 | 2 | 3 | 4 | 5 => simp
         | i + 6 => simp)
    · obtain ⟨es, clock, ho⟩ := MapP.obj hO.map
      exact Sl.ne_other hO.faults (by decide) ho (fun _ _ _ e => by cases e) hn ex
  · intro r hr
    rcases mem_putK hr with rfl | hr
    · exact ⟨hname, hbl⟩
    · exact hO.ok.names r hr

def PutYes (sb : Nat) (G : OG) (s : OS) (name b : Bs) (w : World) (e : Ending) (w' : World) : Prop :=
  ∃ fv v, e = .returned (.int .i64 0) ∧ ObjAt w' sb { G with faults := fv, ents := putK name v G.ents } { s.op with row := putK name b s.row } ∧ vblk fv = vblk G.faults ∧ (∀ x, vblk v = some x → w.heap.size ≤ x) ∧
    Keep (OG.mine sb G) w w'

/-- The bytes that came in read as they did, behind the steps and 's.bytes += ..'. -/
theorem put_bytes {sb : Nat} {G : OG} {s : OS} {fv : Value} {w w1 : World} {bv : Value} {b : Bs} (_hO : ObjAt w1 sb { G with faults := fv } s.op) (hb : BytesAt w bv b) (hk : Keep (fun b => b = sb ∨ vblk G.fuse = some b) w w1) (_hsb : sb < w.heap.size) (z : Int) (hS : ObjAt w sb G s) :
    BytesAt (putX w1 sb z) bv b := by
  have hk2 : Keep (fun b => b = sb ∨ vblk G.fuse = some b) w (putX w1 sb z) := hk.setCell (p := ⟨sb, 2, none⟩) (fun _ => .inl rfl) _
  refine Sl.keep hb hk2 (fun x hn e hx => ?_)
  rcases hx with rfl | hx
  · refine BytesAt.ne_cells hb hS.blk (fun y i => ?_) hn e
    obtain ⟨_, a1, c1, e3, _⟩ := hS.faults
    rcases hS.fuse with ⟨e1, _⟩ | ⟨fb, e1, _⟩ <;> rw [e1, e3] <;>
      (match i with
       | 0 | 1 | 2 | 3 | 4 | 5 => simp
       | i + 6 => simp)
  · rcases hS.fuse with ⟨e1, _⟩ | ⟨fb, e1, hF1⟩
    · rw [e1] at hx; simp [vblk] at hx
    · rw [e1] at hx; simp [vblk] at hx; subst hx
      refine BytesAt.ne_cells hb hF1.1 (fun y i => ?_) hn e
      match i with
      | 0 => simp
      | i + 1 => simp

set_option maxHeartbeats 2000000 in
theorem put_ok (sb : Nat) (G : OG) (s : OS) (w : World) (hS : ObjAt w sb G s) (hl : s.left ≠ 0) (ho : s.ops < 4611686018427387904) (nm : ByteArray) (hnm : nm.size ≤ maxLen) (bv : Value) (b : Bs) (hb : BytesAt w bv b) (hbl : b.length ≤ 140737488355328)
    (hc : s.putCode nm.data.toList b = 0) :
    Calls Try.prog 30 #[.pointer (some ⟨sb, 0, none⟩), .string nm, bv] w (PutYes sb G s nm.data.toList b w) := by
  have hmf : ∀ (fn : Fn) (first cap : Array Value) (w : World), (Instr.makeFunc fn first cap).run Try.prog w = .ok (.func fn first cap) w := fun _ _ _ _ => rfl
  have HC := put_all sb G s w hS hl ho nm hnm bv b hb hbl
  have hk := putW_keep w sb nm bv
  have hbx := putW_boxes w sb nm bv
  have hsb : sb < w.heap.size := lt_blk hS.blk
  have hfu := hS.fuse_lt
  have H := Lib.hid (⟨hbx, hfu, hb⟩ : PutBoxes sb w.heap.size nm bv (putW w sb nm bv) ∧ (∀ x, vblk G.fuse = some x → x < w.heap.size) ∧ BytesAt w bv b)
  obtain ⟨a, n, c, rfl⟩ : ∃ a n c, bv = .slice a n c := let ⟨_, a, c, e, _⟩ := hb; ⟨a, _, c, e⟩
  have H0 := Lib.hid hS
  have HCC := Lib.hid hc; clear hc hb hS hbx hfu
  go_enter Try.func30, Try.ntmps30
  go_wp2_with (go_at_call 44; refine HC.mono ?_; rintro e w1 ⟨i, fv, rfl, hO, hfv, hk1⟩; rw [HCC.out])
  obtain ⟨hbx, hfu, hb⟩ := H.out
  obtain ⟨r1, r2, r3, r4, r5⟩ := put_room HCC.out
  have hF : ∀ x, (x = sb ∨ vblk G.fuse = some x) → x < w.heap.size := fun x e => e.elim (fun e => by omega) (hfu x)
  have hbx1 := hbx.keep hk1 hF
  have d0 : w1.cell? ⟨w.heap.size, 0, none⟩ = some (.pointer (some ⟨sb, 0, none⟩)) := by rw [cell_blk hbx1.b0]; rfl
  have d1 : w1.cell? ⟨w.heap.size + 1, 0, none⟩ = some (.string nm) := by rw [cell_blk hbx1.b1]; rfl
  have d2 : w1.cell? ⟨w.heap.size + 1 + 1, 0, none⟩ = some (.slice a n c) := by rw [cell_blk hbx1.b2]; rfl
  have c0 : w1.cell? ⟨sb, 0, none⟩ = some (.map (some G.mb)) := by rw [cell_blk hO.blk]; simp
  have c2 : w1.cell? ⟨sb, 2, none⟩ = some (.int .i64 (sizeR s.row)) := by rw [cell_blk hO.blk]; rfl
  have f2 : w1.frozen? ⟨sb, 2, none⟩ = false := frozen_blk hO.blk 2
  obtain ⟨a2, n2, c2', hl1, hn2⟩ : ∃ a2 n2 c2', (lk G.ents nm.data.toList).getD (.slice none 0 0) = .slice a2 n2 c2' ∧ n2 = ((lk s.row nm.data.toList).getD []).length := by
    rcases lk_step hO.rows nm.data.toList with ⟨h1, h2⟩ | ⟨v, l, h1, h2, h3⟩
    · exact ⟨none, 0, 0, by rw [show lk G.ents nm.data.toList = none from h1]; rfl, by rw [show lk s.row nm.data.toList = none from h2]; rfl⟩
    · obtain ⟨_, a3, c3, e3, _⟩ := h3
      exact ⟨a3, l.length, c3, by rw [show lk G.ents nm.data.toList = some v from h1, ← e3]; rfl, by rw [show lk s.row nm.data.toList = some l from h2]; rfl⟩
  have hlook : (Instr.lookup 56 (.map (some G.mb)) (.string nm) false).run Try.prog w1.drew = .ok (.slice a2 n2 c2') w1.drew := by
    rw [← hl1]
    exact MapP.look Try.underlying9 Try.underlying56 (MapP.keep hO.map ((Keep.refl (fun _ => False) w1).drew) (fun e => e)) nm hnm (zero_bytes _)
  have hn4 : n2 ≤ sizeR s.row := by rw [hn2]; exact lk_le _ _
  rw [← hn2] at r4
  have hq : 0 ≤ s.quota ∧ s.quota ≤ 9223372036854775807 := hO.ok.quota
  have hZs : (sizeR s.row : Int) ≤ s.quota := hO.ok.size
  have hn : n = b.length := by obtain ⟨_, a', c', e, _⟩ := hb; cases e; rfl
  rw [← hn] at r3 r4
  obtain ⟨Z, hZ⟩ : ∃ Z : Nat, Z = sizeR s.row := ⟨_, rfl⟩
  rw [← hZ] at c2 r4 hn4 hZs
  have hw1 : IntKind.i64.wrap ((n : Int) - n2) = n - n2 := IntWalk.i64_in _ (by omega)
  have hw2 : IntKind.i64.wrap ((Z : Int) + (n - n2)) = Z + (n - n2) := IntWalk.i64_in _ (by omega)
  have H2 := Lib.hid (⟨hZ, hn2, hl1, hn, hb, r1, r2, r5, hbx1⟩ : Z = sizeR s.row ∧ n2 = ((lk s.row nm.data.toList).getD []).length ∧ (lk G.ents nm.data.toList).getD (.slice none 0 0) = .slice a2 n2 c2' ∧ n = b.length ∧ BytesAt w (.slice a n c) b ∧ s.code = 0 ∧ nameOK nm.data.toList = true ∧ ((lk s.row nm.data.toList).isSome = true ∨ s.row.length ≠ 4096) ∧ PutBoxes sb w.heap.size nm (.slice a n c) w1)
  clear hZ hn2 hl1 hn hb r1 r2 r5 hbx hbx1 hfu
  have hsb' : ¬ sb = w.heap.size := by omega
  have hsb1 : ¬ sb = w.heap.size + 1 := by omega
  have hsb2 : ¬ sb = w.heap.size + 1 + 1 := by omega
  have hb5 : BytesAt (putX w1 sb (Z + ((n : Int) - n2))) (.slice a n c) b :=
    put_bytes hO (H2.out.2.2.2.2.1) ((Keep.mono hk (fun _ _ e => e.elim)).trans hk1) hsb (Z + ((n : Int) - n2)) H0.out
  have T := fun (w2 : World) (v : Value) => put_behind (w2 := w2) hO H2.out.2.2.2.2.2.2.2.2 hsb (Z + ((n : Int) - n2)) hnm v
  have HT := Lib.hid T; clear T
  have HB := Lib.hid hb5; clear hb5
  go_region
  go_wp2
  clear hlook
  have HO := Lib.hid hO; clear hO
  obtain ⟨q0, q1, q2, q3, _⟩ := HT.out (w1.setCell ⟨sb, 2, none⟩ (.int .i64 (Z + ((n : Int) - n2)))) (.bool true) (fun _ _ => rfl)
  go_region_held3 (fun W => W.cell? ⟨w.heap.size, 0, none⟩ = some (.pointer (some ⟨sb, 0, none⟩)) ∧ W.cell? ⟨w.heap.size + 1, 0, none⟩ = some (.string nm) ∧ W.cell? ⟨w.heap.size + 1 + 1, 0, none⟩ = some (.slice a n c) ∧ W.cell? ⟨sb, 0, none⟩ = some (.map (some G.mb)))
    (first | exact ⟨q0, q1, q2, q3⟩ | exact ⟨e0, e1, e2, ec0⟩ | exact ⟨g0, g1, g2, g3⟩ | go_keep)
    (first | (go_at_call 49; refine (cloneB_any _ _ b ?_ ?_).mono ?_; exact HB.out; exact hbl; rintro e w2 ⟨v, rfl, hv, hvf, hbl2⟩; obtain ⟨e0, e1, e2, ec0, w3, hrun, hm3, hk3, g0, g1, g2, g3⟩ := HT.out w2 v (fun k hk => hbl2.block k (by simpa using hk))))
  have e3 : Ending.returned (Value.int .i64 0) = .returned (.int .i64 0) := rfl
  obtain ⟨hZ, hn2, hl1, hn, hb, r1, r2, r5, hbx1⟩ := H2.out
  have hO := HO.out
  have hsz := sizeR_putK hO.ok.rising nm.data.toList b
  have hlen := length_putK_le hO.ok.rising nm.data.toList b
  have hm := hO.ok.many
  have hX : Keep (fun _ => False) (putX w1 sb (Z + ((n : Int) - n2))) w2 := Keep.of_below (w := putX w1 sb (Z + ((n : Int) - n2))) ⟨hbl2.os, hbl2.tape, hbl2.output, hbl2.size, hbl2.block⟩ _
  have hsz1 : (putX w1 sb (Z + ((n : Int) - n2))).heap.size = w1.heap.size := by simp [putX]
  dsimp only [OS.op] at hsz hlen hm
  rw [← hn2, ← hZ, ← hn] at hsz
  have fin := put_store (s := s.op) (fv := fv) (name := nm.data.toList) (b := b) hO (z := Z + ((n : Int) - n2)) (v := v) (by dsimp only [OS.op]; omega) r2 (by omega) (by dsimp only [OS.op]; omega) (by
      dsimp only [OS.op]
      rcases r5 with r5 | r5
      · have := length_putK_some hO.ok.rising nm.data.toList b r5
        dsimp only [OS.op] at this; omega
      · omega) hX hv (fun x e => Nat.le_trans (Nat.le_of_eq hsz1.symm) (hvf x e)) hm3 hk3
  have kk : Keep (OG.mine sb G) w w3 :=
    ((((hk.mono (G := OG.mine sb G) (fun _ _ e => e.elim)).trans' hk1 (H := OG.mine sb G) (fun _ _ e => e) (fun _ _ e => e.elim .inl (fun e => .inr (.inr e)))).setCell (p := ⟨sb, 2, none⟩) (fun _ => .inl rfl) (.int .i64 (Z + ((n : Int) - n2)))).trans' hX (H := OG.mine sb G) (fun _ _ e => e) (fun _ _ e => e.elim)).trans' hk3 (fun _ _ e => e) (fun _ _ e => .inr (.inl e))
  have hfr : ∀ x, vblk v = some x → w.heap.size ≤ x := fun x e => Nat.le_trans (Nat.le_trans hk.size hk1.size) (Nat.le_trans (Nat.le_of_eq hsz1.symm) (hvf x e))
  have FIN := Lib.hid (⟨fin, kk, hfr⟩ : _ ∧ _ ∧ _)
  clear fin kk hfr hZ hn2 hl1 hn hb r1 r2 r5 hbx1 hO hsz hlen hm hX hsz1 hv hvf hbl2 hm3 hk3 hk1
  go_wp2
  go_ret
  exact ⟨fv, v, rfl, FIN.out.1, hfv, FIN.out.2.2, FIN.out.2.1⟩

theorem put_blow (sb : Nat) (G : OG) (s : OS) (w : World) (hS : ObjAt w sb G s) (hl : s.left = 0) (nm : ByteArray) (a : Option Addr) (n c : Nat) :
    ∃ fb, G.fuse = .pointer (some ⟨fb, 0, none⟩) ∧ Calls Try.prog 30 #[.pointer (some ⟨sb, 0, none⟩), .string nm, .slice a n c] w fun e w' => e = .panicked (blowChain fb) ∧ Keep (fun _ => False) w w' := by
  obtain ⟨fb, hfb, hop⟩ := op_blow sb G s (putW w sb nm (.slice a n c)) (hS.keep0 (putW_keep w sb nm _)) hl
  refine ⟨fb, hfb, ?_⟩
  have HC : Calls Try.prog 44 #[.slice (some ⟨w.heap.size + 1 + 1 + 1, 0, none⟩) 3 3] (putW w sb nm (.slice a n c)) (fun e w' => e = .panicked (blowChain fb) ∧ putW w sb nm (.slice a n c) = w') := by
    refine gall_any (putClos sb w.heap.size) (putClos_enters _ _) _ _ _ _ (putW_boxes w sb nm _).lies (by simp [putClos]) _ ?_
    refine allRun_cons (args := #[.pointer (some ⟨sb, 0, none⟩)]) rfl ?_
    exact hop.mono (fun e w' h => .inr (.inr ⟨_, h.1, rfl, h.2⟩))
  have hmf : ∀ (fn : Fn) (first cap : Array Value) (w : World), (Instr.makeFunc fn first cap).run Try.prog w = .ok (.func fn first cap) w := fun _ _ _ _ => rfl
  have hk := putW_keep w sb nm (.slice a n c)
  clear hS hop
  go_enter Try.func30, Try.ntmps30
  go_wp2_with (go_at_call 44; refine HC.mono ?_; rintro e w1 ⟨rfl, rfl⟩)
  exact ⟨rfl, rfl, hk⟩
end Go.Proofs.Ytlajejbglpggeaa
