/-
  lock.Holders: the function that it hands on.
-/
import Derived.Test.YtlajejbglpggeaaEachOps
import Derived.Test.YtlajejbglpggeaaAppendL
import Derived.Test.YtlajejbglpggeaaTake3

/-! lock.Holders: the function that it hands on. -/
namespace Go.Proofs.Ytlajejbglpggeaa
open Go.RowKit Go.Proofs Go.Lib

theorem info_u64 : (Try.prog.info? 22).map (fun i => (i.zero, i.size, i.bytes)) = some (some (.int .u64 0), 1, 8) := by kernel_rfl
def u64V (t : List Nat) : List Value := t.map fun (n : Nat) => Value.int .u64 (n : Int)
structure HdBox (b sb : Nat) (now stale : Int) (W : World) : Prop where
  s : W.heap[b]? = some (.cells #[.pointer (some ⟨sb, 0, none⟩)] 28 (0, 0))
  now : W.heap[b + 1]? = some (.cells #[.int .i64 now] 2 (0, 0))
  stale : W.heap[b + 2]? = some (.cells #[.int .i64 stale] 2 (0, 0))
theorem HdBox.keep {b sb : Nat} {now stale : Int} {W W' : World} (h : HdBox b sb now stale W) {F : Nat → Prop} (hk : Keep F W W') (hF : ∀ x, b ≤ x → x ≤ b + 2 → ¬ F x) : HdBox b sb now stale W' :=
  ⟨hk.heap h.s (hF _ (by omega) (by omega)), hk.heap h.now (hF _ (by omega) (by omega)), hk.heap h.stale (hF _ (by omega) (by omega))⟩

/-- a lock more -/
def stepH (now stale : Int) (s : OS) (t : List Nat) (who : Nat) (_nm b : Bs) : Except (Int × OS × List Nat) (OS × List Nat) :=
  .ok (s, if (freshB b now stale).isSome = true then t ++ [who] else t)

structure HdI (b sb B : Nat) (S p : Nat → Prop) (k : Nat) (now stale : Int) (s : OS) (t : List Nat) (W : World) : Prop where
  st : St W sb (.pointer none) S s
  left : s.left = -1
  box : HdBox b sb now stale W
  out : ∃ v, W.heap[b + 3]? = some (.cells #[v] 34 (0, 0)) ∧ W.ownsRow B 22 1 v t.length (u64V t) ∧ ∀ x, vblk v = some x → ¬ p x ∧ x < W.heap.size
  nb : ∀ x, S x → x < b ∨ b + 3 < x
  sB : ∀ x, S x → x < B
  pB : ∀ x, p x → B ≤ x ∧ x < W.heap.size
  bB : b + 3 < B
  WB : B ≤ W.heap.size
  small : t.length ≤ k
section
variable {b sb B k : Nat} {S p : Nat → Prop} {now stale : Int} {s : OS} {t : List Nat} {W W' : World}
theorem own_keep15 {w w' : World} {base : Nat} {e : TypeId} {k : Nat} {v : Value} {n : Nat} {xs : List Value} {F : Nat → Prop} (h : w.ownsRow base e k v n xs) (hk : Keep F w w') (hF : ∀ g, base ≤ g → vblk v = some g → ¬ F g) : w'.ownsRow base e k v n xs := by
  obtain ⟨h1, h2⟩ := h
  refine ⟨h1, ?_⟩
  rcases h2 with h2 | ⟨g, cap, cur, e1, hg, hh, r⟩
  · exact .inl h2
  · exact .inr ⟨g, cap, cur, e1, hg, hk.heap hh (hF g hg (by rw [e1]; rfl)), r⟩
theorem HdI.keep0 (h : HdI b sb B S p k now stale s t W) (hk : Keep (fun _ => False) W W') : HdI b sb B S p k now stale s t W' :=
  let ⟨v, h1, h2, h3⟩ := h.out
  ⟨h.st.keep0 hk, h.left, h.box.keep hk (fun _ _ _ e => e), ⟨v, hk.heap h1 id, own_keep15 h2 hk (fun _ _ _ e => e), fun x e => ⟨(h3 x e).1, Nat.lt_of_lt_of_le (h3 x e).2 hk.size⟩⟩, h.nb, h.sB, fun x e => ⟨(h.pB x e).1, Nat.lt_of_lt_of_le (h.pB x e).2 hk.size⟩, h.bB, Nat.le_trans h.WB hk.size, h.small⟩
theorem HdI.turn (h : HdI b sb B S p k now stale s t W) {s' : OS} (h1 : St W' sb (.pointer none) S s') (hl : s'.left = -1) (tn : Turn S S W W') : HdI b sb B S p k now stale s' t W' :=
  let ⟨v, g1, g2, g3⟩ := h.out
  ⟨h1, hl, h.box.keep tn.keep (fun x h1 h2 e => by have := h.nb x e; omega), ⟨v, tn.keep.heap g1 (fun e => by have := h.nb _ e; omega), own_keep15 g2 tn.keep (fun g hg _ e => by have := h.sB g e; omega), fun x e => ⟨(g3 x e).1, Nat.lt_of_lt_of_le (g3 x e).2 tn.keep.size⟩⟩, h.nb, h.sB, fun x e => ⟨(h.pB x e).1, Nat.lt_of_lt_of_le (h.pB x e).2 tn.keep.size⟩, h.bB, Nat.le_trans h.WB tn.keep.size, h.small⟩

theorem HdI.up (h : HdI b sb B S p k now stale s t W) : HdI b sb B S p (k + 1) now stale s t W := { h with small := by have := h.small; omega }

theorem hd_but (who : Nat) (W : World) : Calls Try.prog 33 #[.int .u64 (who : Nat)] W fun e w' => e = .returned (.bool false) ∧ W = w' := by
  go_enter Try.func33, Try.ntmps33
  go_wp2
  go_ret
  exact ⟨rfl, rfl⟩

def HdEnds (b sb B : Nat) (S p : Nat → Prop) (k : Nat) (now stale : Int) (s : OS) (t : List Nat) (W : World) (e : Ending) (w' : World) : Prop :=
  e = .returned (.tuple #[]) ∧ Keep (fun x => ¬ p x ∧ (x = b + 3 ∨ B ≤ x)) W w' ∧ HdI b sb B S p (k + 1) now stale s t w'

theorem hd_push {W1 W2 : World} {who n : Nat} {oa pa : Option Addr} {oc pc : Nat} (h : HdI b sb B S p k now stale s t W1) (_hsm : n < 5000) (hn : n = t.length) (hk : Keep (fun _ => False) W W1) (ka : Keep (fun _ => False) W1 W2) (g2 : W2.ownsRow B 22 1 (.slice oa n oc) n (u64V t)) (g3 : ∀ x, vblk (.slice oa n oc) = some x → ¬ p x ∧ x < W1.heap.size)
    (k2 : Keep (fun x => vblk (.slice oa n oc) = some x) W2 W') (hb : ∀ x, vblk (.slice pa (n + 1) pc) = some x → vblk (.slice oa n oc) = some x ∨ W2.heap.size ≤ x) (ho : W'.ownsRow B 22 1 (.slice pa (n + 1) pc) (n + 1) (u64V t ++ [.int .u64 (who : Int)])) (hw : W'.heap[b + 3]? = some (.cells #[.slice oa n oc] 34 (0, 0))) :
    HdEnds b sb B S p k now stale s (t ++ [who]) W (.returned (.tuple #[])) (W'.setCell ⟨b + 3, 0, none⟩ (.slice pa (n + 1) pc)) := by
  have hB : ∀ x, vblk (.slice oa n oc) = some x → B ≤ x := (Sl.of_owns g2).2
  have ks : Keep (fun x => x = b + 3) W' (W'.setCell ⟨b + 3, 0, none⟩ (.slice pa (n + 1) pc)) := (Keep.refl (fun x => x = b + 3) W').setCell (p := ⟨b + 3, 0, none⟩) (fun _ => rfl) _
  have kk : Keep (fun x => vblk (.slice oa n oc) = some x ∨ x = b + 3) W1 (W'.setCell ⟨b + 3, 0, none⟩ (.slice pa (n + 1) pc)) := (ka.trans' k2 (fun _ _ e => e.elim) (fun _ _ e => .inl e)).trans' ks (fun _ _ e => e) (fun _ _ e => .inr e)
  have hbB := h.bB
  have hWB := h.WB
  have hz2 := ka.size
  have hz := kk.size
  have hpb : ∀ x, vblk (.slice pa (n + 1) pc) = some x → ¬ p x ∧ x < (W'.setCell ⟨b + 3, 0, none⟩ (.slice pa (n + 1) pc)).heap.size := fun x e => by
    refine ⟨fun e2 => ?_, ?_⟩
    · rcases hb x e with e3 | e3
      · exact (g3 x e3).1 e2
      · have := (h.pB x e2).2; omega
    · rcases ho.2 with ⟨ev, _⟩ | ⟨g, cap, cur, ev, _, hh, _⟩
      · rw [ev] at e; simp [vblk] at e
      · rw [ev] at e
        simp [vblk] at e
        subst e
        exact Nat.lt_of_lt_of_le (lt_blk hh) ks.size
  refine ⟨rfl, hk.trans' kk (fun _ _ e => e.elim) (fun i hi e => ?_), h.st.keep kk (fun x e hx => ?_), h.left, h.box.keep kk (fun x h1 h2 e => ?_), ⟨_, by rw [set_blk hw]; rfl, ?_, hpb⟩, h.nb, h.sB, fun x e => ⟨(h.pB x e).1, Nat.lt_of_lt_of_le (h.pB x e).2 hz⟩, h.bB, Nat.le_trans hWB hz, by have := h.small; rw [List.length_append]; simp; omega⟩
  · rcases e with e | e
    · exact ⟨(g3 i e).1, .inr (hB i e)⟩
    · subst e
      exact ⟨fun e2 => by have := (h.pB _ e2).1; omega, .inl rfl⟩
  · have h1 := h.sB x hx
    have h2 := h.nb x hx
    rcases e with e | e
    · have := hB x e; omega
    · omega
  · rcases e with e | e
    · have := hB x e; omega
    · omega
  · have e1 : (t ++ [who]).length = n + 1 := by rw [List.length_append, ← hn]; rfl
    have e2 : u64V (t ++ [who]) = u64V t ++ [.int .u64 (who : Int)] := by simp [u64V]
    rw [e1, e2]
    exact own_keep15 ho ks (fun g hg e e3 => by omega)

set_option maxRecDepth 100000 in
set_option maxHeartbeats 2000000 in
theorem hd_step (h : HdI b sb B S p k now stale s t W) (hsm : k < 4096) (hnow : 0 ≤ now ∧ now ≤ 1125899906842624) {v : Value} {l : Bs} (hv : BytesAt W v l) (hl : l.length ≤ 1048576) (who : Nat) (_hwho : who < 18446744073709551616) (nm : Bs) :
    Calls Try.prog 34 #[.int .u64 (who : Nat), strV nm, v, .pointer (some ⟨b + 1, 0, none⟩), .pointer (some ⟨b + 2, 0, none⟩), .pointer (some ⟨b + 3, 0, none⟩)] W
      (HdEnds b sb B S p k now stale s (if (freshB l now stale).isSome = true then t ++ [who] else t) W) := by
  obtain ⟨va, vc, rfl⟩ : ∃ a c, v = .slice a l.length c := let ⟨_, a, c, e, _⟩ := hv; ⟨a, c, e⟩
  obtain ⟨i0, hi, hz0, hz1, hz2⟩ := info_parts info_u64
  have c0 := cell_blk h.box.now 0
  have c1 := cell_blk h.box.stale 0
  simp at c0 c1
  have HF := Lib.hid (lkfresh_any hv (by omega) now stale hnow)
  unfold FreshPost15 at HF
  obtain ⟨F, hF⟩ : ∃ F, F = freshB l now stale := ⟨_, rfl⟩
  rw [← hF] at HF ⊢
  have H := Lib.hid h; have HSM := Lib.hid (show t.length < 5000 by have := h.small; omega)
  clear h hv hl hnow hF hsm
  cases F with
  | none =>
    go_enter Try.func34, Try.ntmps34
    go_wp2_with fail
    refine HF.out.mono ?_
    rintro e w1 ⟨s1, a1, rfl, -, k1⟩
    have HK := Lib.hid (k1.trans ((Keep.refl (fun _ => False) w1).alloc (.cells #[.int .i64 s1, .bool a1] 65)))
    clear k1
    go_wp2
    go_end0
    exact ⟨rfl, HK.out.mono (fun _ _ e => e.elim), (H.out.keep0 HK.out).up⟩
  | some a =>
    go_enter Try.func34, Try.ntmps34
    go_wp2_with fail
    refine HF.out.mono ?_
    rintro e w1 ⟨s1, a1, rfl, -, k1⟩
    have hk := k1.trans ((Keep.refl (fun _ => False) w1).alloc (.cells #[.int .i64 s1, .bool a1] 65))
    have h1 := H.out.keep0 hk
    obtain ⟨W1, hW1⟩ : ∃ W1, W1 = w1.alloc (.cells #[.int .i64 s1, .bool a1] 65) := ⟨_, rfl⟩
    rw [← hW1] at hk h1
    obtain ⟨ov, g1, g2, g3⟩ := h1.out
    obtain ⟨oa, oc, rfl⟩ := own_slice g2
    have c3 : (w1.alloc (.cells #[.int .i64 s1, .bool a1] 65)).cell? ⟨b + 3, 0, none⟩ = some (.slice oa t.length oc) := by rw [← hW1, cell_blk g1]; rfl
    have hlt := lt_blk g1
    have HK := Lib.hid hk; have H1 := Lib.hid h1; have HW1 := Lib.hid hW1
    have G1 := Lib.hid (alloc_blk g1 (.cells #[.int .u64 (who : Int)] 22)); have G2 := Lib.hid (g2.alloc (.cells #[.int .u64 (who : Int)] 22)); have G3 := Lib.hid g3
    obtain ⟨n, hn⟩ : ∃ n, n = t.length := ⟨_, rfl⟩
    have HN := Lib.hid hn
    rw [← hn] at c3 G1 G2 G3 HSM
    have N1 := Lib.hid (show n + 1 ≤ maxLen by have := HSM.out; unfold maxLen; omega)
    have N2 := Lib.hid (show (n + 1) * 8 ≤ 140737488355328 by have := HSM.out; omega)
    have N3 := Lib.hid (show B ≤ (W1.alloc (.cells #[.int .u64 (who : Int)] 22)).heap.size by have := h1.WB; simp; omega)
    have SM := Lib.hid (sl_made W1 1 1 #[.int .u64 (who : Int)] 22 rfl (by decide))
    have hne3 : ∀ x, vblk (.slice oa n oc) = some x → x ≠ b + 3 := fun x e => by
      have h2 := (Sl.of_owns G2.out).2 x e; have := h1.bB; omega
    have HNE := Lib.hid hne3
    clear hk h1 g1 g2 g3 k1 hn hne3
    rw [hW1] at G1 G2 N3 SM
    rw [World.size_alloc] at SM
    clear hW1
    go_wp2_with (at_builtin; refine wpList_append_sl rfl (.tmp 19) (.tmp 21) 34 rfl B 22 i0 _ 1 8 Try.underlying34 hi hz0 hz1 hz2 rfl (by decide) (.slice oa n oc) n (u64V t) rfl G2.out _ 1 [.int .u64 (who : Int)] rfl SM.out (by intro u hu; simp at hu; subst hu; rfl) N1.out N2.out N3.out ?_; intro v' W' hown' hk' hb'; obtain ⟨pa, pc, rfl⟩ := own_slice hown'; have hw' : W'.heap[b + 3]? = some (.cells #[.slice oa n oc] 34 (0, 0)) := hk'.heap G1.out (fun e => HNE.out _ e rfl); have c9 := cell_blk hw' 0; have f9 := frozen_blk hw' 0; simp at c9; have HW' := Lib.hid hw'; have HO' := Lib.hid hown'; have HK' := Lib.hid hk'; have HB' := Lib.hid hb'; clear hw' hown' hk' hb')
    all_goals
      go_end0
      exact hd_push H1.out HSM.out HN.out HK.out (by rw [HW1.out]; exact (Keep.refl (fun _ => False) _).alloc _) G2.out G3.out HK'.out HB'.out HO'.out HW'.out
end
end Go.Proofs.Ytlajejbglpggeaa

/-! lock.Holders. -/
namespace Go.Proofs.Ytlajejbglpggeaa
open Go.RowKit Go.Proofs Go.Lib

/-- whose locks there are, and the store behind the question -/
def holdF (now stale : Int) (s : OS) : OS × List Nat × Int :=
  if rightT now stale = true then
    match eachW (fun _ => false) (stepH now stale) s [] with
    | .error (k, s', _) => (s', [], k)
    | .ok (s', t) => (s', t, 0)
  else (s, [], 23)
def holdX : Except (Int × OS × List Nat) (OS × List Nat) → OS × List Nat × Int
  | .error (k, s', _) => (s', [], k)
  | .ok (s', t) => (s', t, 0)

/-- what the body comes to -/
def HoldC (b sb B : Nat) (S : Nat → Prop) (now stale : Int) (x : Except (Int × OS × List Nat) (OS × List Nat)) (W : World) (e : Ending) (w' : World) : Prop :=
  Keep (fun x => S x ∨ x = b + 3) W w' ∧ ∃ p k, EndsAs (HdI b sb B S p k now stale) x e w'

set_option maxRecDepth 100000 in
set_option maxHeartbeats 4000000 in
theorem hold1_any {W : World} {b sb : Nat} {S : Nat → Prop} {now stale : Int} {s : OS} (hst : St W sb (.pointer none) S s) (hleft : s.left = -1) (hbox : HdBox b sb now stale W) (hout : W.heap[b + 3]? = some (.cells #[.slice none 0 0] 34 (0, 0))) (hnb : ∀ x, S x → x < b ∨ b + 3 < x)
    (hnow : 0 ≤ now ∧ now ≤ 1125899906842624) (ho : s.ops ≤ 4000000000000000000) :
    Calls Try.prog 32 #[.pointer (some ⟨b, 0, none⟩), .pointer (some ⟨b + 1, 0, none⟩), .pointer (some ⟨b + 2, 0, none⟩), .pointer (some ⟨b + 3, 0, none⟩)] W (HoldC b sb W.heap.size S now stale (eachW (fun _ => false) (stepH now stale) s []) W) := by
  have hmf : ∀ (fn : Fn) (first cap : Array Value) (w : World), (Instr.makeFunc fn first cap).run Try.prog w = .ok (.func fn first cap) w := fun _ _ _ _ => rfl
  have hSl := hst.lt
  have hb3 := lt_blk hout
  have hI : HdI b sb W.heap.size S (fun _ => False) 0 now stale s [] W := ⟨hst, hleft, hbox, ⟨_, hout, World.ownsRow_nil _ _ _ _, fun x e => by simp [vblk] at e⟩, hnb, hSl, fun _ e => e.elim, hb3, Nat.le_refl _, Nat.le_refl _⟩
  have hH : EachH W sb S (fun x => S x ∨ x = b + 3) (fun p k s t w => HdI b sb W.heap.size S p k now stale s t w) ⟨33, #[], #[]⟩ ⟨34, #[], #[.pointer (some ⟨b + 1, 0, none⟩), .pointer (some ⟨b + 2, 0, none⟩), .pointer (some ⟨b + 3, 0, none⟩)]⟩ (fun _ => false) (stepH now stale) := {
    st := fun _ _ _ _ _ h => h.st
    left := fun _ _ _ _ _ h => h.left
    up := fun _ _ _ _ _ h => h.up
    got := fun _ _ _ _ _ _ h h1 t => h.turn h1 (left_op h.left) t
    init := fun _ _ _ _ _ h h1 t hp => by
      have h2 := h.turn h1 (left_op h.left) t
      obtain ⟨v, g1, g2, g3⟩ := h.out
      obtain ⟨v', q1, q2, q3⟩ := h2.out
      have hvv : v' = v := by
        have e := t.keep.heap g1 (fun e => by have := h.nb _ e; omega)
        rw [q1] at e
        simpa using e
      subst hvv
      exact { h2 with out := ⟨v', q1, q2, fun x e => ⟨fun e2 => by have := (hp x e2).1; have := (g3 x e).2; omega, (q3 x e).2⟩⟩, pB := fun x e => ⟨Nat.le_trans h.WB (hp x e).1, (hp x e).2⟩ }
    sk := fun _ e => .inl e
    low := fun x e => by rcases e with e | e; exact hSl x e; omega
    eb := enters_of Try.func33 (by kernel_rfl) rfl
    ed := enters_of Try.func34 (by kernel_rfl) rfl
    but := fun _ _ _ _ W' o _ _ => hd_but o W'
    stepd := fun _ _ _ _ _ o nm bts v h hn _ h2 h3 _ h5 => (hd_step h hn hnow h2 h3 o h5 nm).mono fun e w' hq => ⟨hq.2.1.mono (fun i _ e => ⟨e.1, e.2.elim (fun e => .inl (.inr e)) .inr⟩), hq.1, hq.2.2⟩
    ops := fun s1 t1 o nm bts s2 t2 e => by
      unfold stepH at e
      cases e; omega }
  have HEA := Lib.hid (each_any hH hI ho)
  dsimp only [Clo.val] at HEA
  have c0 : W.cell? ⟨b, 0, none⟩ = some (.pointer (some ⟨sb, 0, none⟩)) := by rw [cell_blk hbox.s]; rfl
  obtain ⟨X, hX⟩ : ∃ X, X = eachW (fun _ => false) (stepH now stale) s [] := ⟨_, rfl⟩
  rw [← hX] at HEA ⊢
  clear hst hleft hbox hout hnb hnow ho hSl hb3 hI hH hX
  go_enter Try.func32, Try.ntmps32
  go_wp2_with fail
  refine HEA.out.mono ?_
  rintro e w2 ⟨k2, p, k, he⟩
  cases X with
  | error y =>
    obtain ⟨c, s', t'⟩ := y
    obtain ⟨rfl, hI'⟩ := he
    exact ⟨rfl, k2, p, k, rfl, hI'⟩
  | ok y =>
    obtain ⟨s', t'⟩ := y
    obtain ⟨rfl, hI'⟩ := he
    have HF := Lib.hid (show HoldC b sb W.heap.size S now stale (.ok (s', t')) W (.returned (.tuple #[])) w2 from ⟨k2, p, k, rfl, hI'⟩)
    clear k2 hI'
    go_wp2
    go_end0
    exact HF.out

/-- a slice of numbers -/
def U64sAt (w : World) (v : Value) (t : List Nat) : Prop := Sl w 1 v t.length (u64V t)
def HoldPost (sb : Nat) (S : Nat → Prop) (x : OS × List Nat × Int) (w : World) (e : Ending) (w' : World) : Prop :=
  ∃ v, e = .returned (.tuple #[v, .int .i64 x.2.2]) ∧ St w' sb (.pointer none) S x.1 ∧ Turn S S w w' ∧ U64sAt w' v x.2.1 ∧ ∀ y, vblk v = some y → w.heap.size ≤ y

set_option maxRecDepth 100000 in
set_option maxHeartbeats 2000000 in
theorem holders_any {w : World} {sb : Nat} {S : Nat → Prop} {now stale : Int} {s : OS} (hst : St w sb (.pointer none) S s) (hleft : s.left = -1) (ho : s.ops ≤ 4000000000000000000) :
    Calls Try.prog 13 #[.pointer (some ⟨sb, 0, none⟩), .int .i64 now, .int .i64 stale] w (HoldPost sb S (holdF now stale s) w) := by
  have hmf : ∀ (fn : Fn) (first cap : Array Value) (w : World), (Instr.makeFunc fn first cap).run Try.prog w = .ok (.func fn first cap) w := fun _ _ _ _ => rfl
  obtain ⟨W3, hW3⟩ : ∃ W, W = ((w.alloc (.cells #[.pointer (some ⟨sb, 0, none⟩)] 28)).alloc (.cells #[.int .i64 now] 2)).alloc (.cells #[.int .i64 stale] 2) := ⟨_, rfl⟩
  have hz3 : W3.heap.size = w.heap.size + 3 := by rw [hW3]; simp
  have k3 : Keep (fun _ => False) w W3 := by rw [hW3]; exact (((Keep.refl _ w).alloc _).alloc _).alloc _
  have hbox : HdBox w.heap.size sb now stale W3 := by
    rw [hW3]
    refine ⟨?_, ?_, ?_⟩
    · exact alloc_blk (alloc_blk (alloc_new _ _) _) _
    · have := alloc_new (w.alloc (.cells #[.pointer (some ⟨sb, 0, none⟩)] 28)) (.cells #[.int .i64 now] 2)
      rw [World.size_alloc] at this
      exact alloc_blk this _
    · have := alloc_new ((w.alloc (.cells #[.pointer (some ⟨sb, 0, none⟩)] 28)).alloc (.cells #[.int .i64 now] 2)) (.cells #[.int .i64 stale] 2)
      rw [World.size_alloc, World.size_alloc] at this
      exact this
  have c1 : W3.cell? ⟨w.heap.size + 1, 0, none⟩ = some (.int .i64 now) := by rw [cell_blk hbox.now]; rfl
  have c2 : W3.cell? ⟨w.heap.size + 2, 0, none⟩ = some (.int .i64 stale) := by rw [cell_blk hbox.stale]; rfl
  rw [hW3] at c1 c2
  have H3 := Lib.hid hW3; have K3 := Lib.hid k3; have HST := Lib.hid (hst.keep0 k3); have HST0 := Lib.hid hst; have HBX := Lib.hid hbox; have HZ := Lib.hid hz3
  obtain ⟨R, hR⟩ : ∃ R, R = rightT now stale := ⟨_, rfl⟩
  have HRI := Lib.hid (fun W => lkright_any now stale W)
  rw [← hR] at HRI
  have HR := Lib.hid hR
  have HL := Lib.hid hleft; have HO := Lib.hid ho
  clear hst hleft ho hW3 hz3 k3 hbox hR
  cases R
  · go_enter Try.func13, Try.ntmps13
    go_wp2_with fail
    refine (HRI.out _).mono ?_
    rintro e w1 ⟨rfl, rfl⟩
    go_wp2
    go_ret2
    rw [← H3.out]
    have ht : holdF now stale s = (s, [], 23) := by unfold holdF; rw [if_neg (by rw [← HR.out]; decide)]
    rw [ht]
    exact ⟨.slice none 0 0, rfl, HST.out, ⟨K3.out.mono (fun _ _ e => e.elim), fun _ => .inl⟩, Sl.nil _ _, fun y e => by simp [vblk] at e⟩
  · have hn := rightT_now HR.out.symm
    have HN := Lib.hid hn
    clear hn
    have ka := (Keep.refl (fun _ => False) W3).alloc (.cells #[.slice none 0 0] 34)
    have hob := alloc_new W3 (.cells #[.slice none 0 0] 34)
    obtain ⟨W4, hW4⟩ : ∃ W, W = W3.alloc (.cells #[.slice none 0 0] 34) := ⟨_, rfl⟩
    have hz4 : W4.heap.size = w.heap.size + 4 := by rw [hW4]; simp; exact HZ.out
    rw [← hW4, HZ.out] at hob
    rw [← hW4] at ka
    have hE1 := enters_of Try.func32 (by kernel_rfl) rfl
    have kr := runW_keep W4
    have hzr : (runW W4).heap.size = w.heap.size + 5 := by unfold runW; simp; exact hz4
    have hC := hold1_any ((HST.out.keep0 ka).keep0 kr) HL.out (HBX.out.keep (ka.trans kr) (fun _ _ _ e => e)) (kr.heap hob id) (fun x e => by have := HST0.out.lt x e; omega) ⟨HN.out.1, HN.out.2.1⟩ HO.out
    obtain ⟨x, hx⟩ : ∃ x, x = eachW (fun _ => false) (stepH now stale) s [] := ⟨_, rfl⟩
    have ht : holdF now stale s = holdX x := by unfold holdF; rw [if_pos HR.out.symm, ← hx]; rfl
    rw [← hx] at hC
    have HSL := HST0.out.lt
    have herr : ∀ k s' t', x = .error (k, s', t') → k ≠ 0 := fun k s' t' e => eachW_err (fun _ _ _ _ _ _ _ _ e => by unfold stepH at e; cases e) (hx ▸ e)
    have HRUN := Lib.hid (run_any ⟨32, #[], #[.pointer (some ⟨w.heap.size, 0, none⟩), .pointer (some ⟨w.heap.size + 1, 0, none⟩), .pointer (some ⟨w.heap.size + 2, 0, none⟩), .pointer (some ⟨w.heap.size + 3, 0, none⟩)]⟩ hE1 W4 _ (by rfl)
      (fun w' => Keep (fun x => S x ∨ x = w.heap.size + 3) (runW W4) w' ∧ ∃ s' t' p k, x = .ok (s', t') ∧ HdI w.heap.size sb (runW W4).heap.size S p k now stale s' t' w') (fun c w' => Keep (fun x => S x ∨ x = w.heap.size + 3) (runW W4) w' ∧ ∃ s' t' p k, x = .error (c, s', t') ∧ HdI w.heap.size sb (runW W4).heap.size S p k now stale s' t' w')
      (fun w' h => h.1.mono (fun i _ e => e.elim (fun e => by have := HSL i e; omega) (fun e => by omega)))
      (fun k w' h => h.1.mono (fun i _ e => e.elim (fun e => by have := HSL i e; omega) (fun e => by omega)))
      (hC.mono fun e w' h => by
        obtain ⟨h1, p, k, h2⟩ := h
        cases x with
        | error y => obtain ⟨c, s', t'⟩ := y; exact .inr ⟨c, h2.1, h1, s', t', p, k, rfl, h2.2⟩
        | ok y => obtain ⟨s', t'⟩ := y; exact .inl ⟨h2.1, h1, s', t', p, k, rfl, h2.2⟩))
    have HT := Lib.hid ht
    have HKR := Lib.hid ((K3.out.trans ka).trans kr)
    have HW4 := Lib.hid hW4; have HZ4 := Lib.hid hz4; have HZR := Lib.hid hzr; have HER := Lib.hid herr
    have fin : ∀ s' t' p k w6 w7, Keep (fun x => S x ∨ x = w.heap.size + 3) (runW W4) w6 → HdI w.heap.size sb (runW W4).heap.size S p k now stale s' t' w6 → Keep (fun x => x = W4.heap.size) w6 w7 → St w7 sb (.pointer none) S s' ∧ Turn S S w w7 ∧ ∃ v, w7.heap[w.heap.size + 3]? = some (.cells #[v] 34 (0, 0)) ∧ U64sAt w7 v t' ∧ ∀ y, vblk v = some y → w.heap.size ≤ y := fun s' t' p k w6 w7 k6 h6 k7 => by
      obtain ⟨v, g1, g2, g3⟩ := h6.out
      have hv := (Sl.of_owns g2)
      refine ⟨h6.st.keep k7 (fun b e hb => by have := h6.sB b hb; have := h6.nb b hb; have := HSL b hb; omega), ⟨(((K3.out.trans ka).trans kr).trans' k6 (H := fun x => S x ∨ x = w.heap.size + 3) (fun _ _ e => e.elim) (fun _ _ e => e)).trans' k7 (fun i hi e => e.elim id (fun e => by omega)) (fun i hi e => by omega), fun _ => .inl⟩, v, k7.heap g1 (by omega), Sl.keep hv.1 k7 (fun b _ e e2 => by have := hv.2 b e; omega), fun y e => by have := hv.2 y e; omega⟩
    have FIN := Lib.hid fin
    clear hE1 kr hC ht hx HSL ka hob hW4 hz4 hzr herr fin
    dsimp only [Clo.val] at HRUN
    go_enter Try.func13, Try.ntmps13
    go_wp2_with fail
    refine (HRI.out _).mono ?_
    rintro e w1 ⟨rfl, rfl⟩
    go_wp2_with fail
    rw [← H3.out]
    have e3 : w.heap.size + 3 = W3.heap.size := HZ.out.symm
    first | rw [← HW4.out] | (rw [← e3, ← HW4.out])
    refine HRUN.out.mono ?_
    rintro e w7 ⟨w6, c, rfl, (⟨rfl, k6, s', t', p, k, hxx, h6⟩ | ⟨k6, s', t', p, k, hxx, h6⟩), k7⟩
    · obtain ⟨f1, f2, v, f3, f4, f5⟩ := FIN.out _ _ _ _ _ _ k6 h6 k7
      obtain ⟨a, cc, rfl⟩ : ∃ a c, v = .slice a t'.length c := let ⟨_, a, c, e, _⟩ := f4; ⟨a, c, e⟩
      have c9 := cell_blk f3 0
      simp at c9
      have hh : holdF now stale s = (s', t', 0) := by rw [HT.out, hxx]; rfl
      have HH := Lib.hid hh; have F1 := Lib.hid f1; have F2 := Lib.hid f2; have F4 := Lib.hid f4; have F5 := Lib.hid f5
      clear k6 h6 k7 f1 f2 f3 f4 f5 hxx hh e3
      go_wp2
      go_ret2
      rw [HH.out]
      exact ⟨_, rfl, F1.out, F2.out, F4.out, F5.out⟩
    · obtain ⟨f1, f2, -⟩ := FIN.out _ _ _ _ _ _ k6 h6 k7
      have hc := HER.out _ _ _ hxx
      have hc1 : (c != 0) = true := by simpa using hc
      have hh : holdF now stale s = (s', [], c) := by rw [HT.out, hxx]; rfl
      have HH := Lib.hid hh; have F1 := Lib.hid f1; have F2 := Lib.hid f2
      clear k6 h6 k7 f1 f2 hxx hh e3 hc
      go_wp2
      go_ret2
      rw [HH.out]
      exact ⟨.slice none 0 0, rfl, F1.out, F2.out, Sl.nil _ _, fun y e => by simp [vblk] at e⟩
end Go.Proofs.Ytlajejbglpggeaa
