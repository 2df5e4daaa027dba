/-
  lock.Take: the two functions that it hands on.
-/
import Derived.Test.YtlajejbglpggeaaEach
import Derived.Test.YtlajejbglpggeaaLock5
namespace Go.Proofs.Ytlajejbglpggeaa
open Go.RowKit Go.Proofs Go.Lib

/-- the boxes of what Take is called with -/
structure TkBox (b sb : Nat) (who : Nat) (alone : Bool) (now stale : Int) (W : World) : Prop where
  s : W.heap[b]? = some (.cells #[.pointer (some ⟨sb, 0, none⟩)] 28 (0, 0))
  who : W.heap[b + 1]? = some (.cells #[.int .u64 who] 22 (0, 0))
  alone : W.heap[b + 2]? = some (.cells #[.bool alone] 4 (0, 0))
  now : W.heap[b + 3]? = some (.cells #[.int .i64 now] 2 (0, 0))
  stale : W.heap[b + 4]? = some (.cells #[.int .i64 stale] 2 (0, 0))
theorem TkBox.keep {b sb who : Nat} {alone : Bool} {now stale : Int} {W W' : World} (h : TkBox b sb who alone now stale W) {F : Nat → Prop} (hk : Keep F W W') (hF : ∀ x, b ≤ x → x ≤ b + 4 → ¬ F x) : TkBox b sb who alone now stale W' :=
  ⟨hk.heap h.s (hF _ (by omega) (by omega)), hk.heap h.who (hF _ (by omega) (by omega)), hk.heap h.alone (hF _ (by omega) (by omega)), hk.heap h.now (hF _ (by omega) (by omega)), hk.heap h.stale (hF _ (by omega) (by omega))⟩

/-- what becomes of a lock that somebody else has -/
def stepT (alone : Bool) (now stale : Int) (s : OS) (shut : Bool) (_who : Nat) (nm b : Bs) : Except (Int × OS × Bool) (OS × Bool) :=
  match freshB b now stale with
  | some a => .ok (s, shut || (alone || a))
  | none => if s.getCode nm = 0 ∨ s.getCode nm = 4 then .ok (s.drop nm, shut) else .error (s.getCode nm, s.drop nm, shut)

/-- between two locks -/
structure TkI (b sb hb : Nat) (S : Nat → Prop) (who : Nat) (alone : Bool) (now stale : Int) (s : OS) (shut : Bool) (W : World) : Prop where
  st : St W sb (.pointer none) S s
  left : s.left = -1
  box : TkBox b sb who alone now stale W
  shut : W.heap[hb]? = some (.cells #[.bool shut] 4 (0, 0))
  nb : ∀ x, S x → x < b ∨ b + 4 < x
  nh : ¬ S hb
  bh : b + 4 < hb
section
variable {b sb hb : Nat} {S : Nat → Prop} {who : Nat} {alone : Bool} {now stale : Int} {s : OS} {shut : Bool} {W W' : World}
theorem TkI.keep0 (h : TkI b sb hb S who alone now stale s shut W) (hk : Keep (fun _ => False) W W') : TkI b sb hb S who alone now stale s shut W' :=
  ⟨h.st.keep0 hk, h.left, h.box.keep hk (fun _ _ _ e => e), hk.heap h.shut id, h.nb, h.nh, h.bh⟩
theorem TkI.turn (h : TkI b sb hb S who alone now stale s shut W) {s' : OS} (h1 : St W' sb (.pointer none) S s') (hl : s'.left = -1) (t : Turn S S W W') : TkI b sb hb S who alone now stale s' shut W' :=
  ⟨h1, hl, h.box.keep t.keep (fun x h1 h2 e => by have := h.nb x e; omega), t.keep.heap h.shut h.nh, h.nb, h.nh, h.bh⟩
theorem TkI.set (h : TkI b sb hb S who alone now stale s shut W) {t : Bool} (hs : (W.setCell ⟨hb, 0, none⟩ (.bool t)).heap[hb]? = some (.cells #[.bool t] 4 (0, 0))) : TkI b sb hb S who alone now stale s t (W.setCell ⟨hb, 0, none⟩ (.bool t)) :=
  have k : Keep (fun x => x = hb) W (W.setCell ⟨hb, 0, none⟩ (.bool t)) := (Keep.refl (fun x => x = hb) W).setCell (p := ⟨hb, 0, none⟩) (fun _ => rfl) _
  ⟨h.st.keep k (fun x e => by rw [e]; exact h.nh), h.left, h.box.keep k (fun x h1 h2 e => by have := h.bh; omega), hs, h.nb, h.nh, h.bh⟩
theorem left_op {s : OS} (h : s.left = -1) : s.op.left = -1 := by show decF s.left = -1; rw [h]; rfl
theorem left_drop {s : OS} (h : s.left = -1) (nm : Bs) : (s.drop nm).left = -1 := by unfold OS.drop; split <;> exact left_op h

theorem tk_but (h : TkI b sb hb S who alone now stale s shut W) (o : Nat) : Calls Try.prog 24 #[.int .u64 (o : Nat), .pointer (some ⟨b + 1, 0, none⟩)] W fun e w' => e = .returned (.bool (o == who)) ∧ W = w' := by
  have c0 := cell_blk h.box.who 0
  simp at c0
  clear h
  go_enter Try.func24, Try.ntmps24
  go_wp2
  go_ret
  refine ⟨?_, rfl⟩
  by_cases e : o = who
  · subst e; simp
  · have e1 : (o == who) = false := by simpa using e
    have e2 : ((o : Int) == (who : Int)) = false := by rw [beq_eq_false_iff_ne]; omega
    first | rfl | simp [e1, e2]

set_option maxRecDepth 100000 in
set_option maxHeartbeats 2000000 in
theorem tk_fresh (h : TkI b sb hb S who alone now stale s shut W) (hnow : 0 ≤ now ∧ now ≤ 1125899906842624) {v : Value} {l : Bs} (hv : BytesAt W v l) (hl : l.length ≤ 1048576) {a : Bool} (hf : freshB l now stale = some a) (o : Nat) (nm : Bs) :
    Calls Try.prog 25 #[.int .u64 (o : Nat), strV nm, v, .pointer (some ⟨b + 3, 0, none⟩), .pointer (some ⟨b + 4, 0, none⟩), .pointer (some ⟨b, 0, none⟩), .pointer (some ⟨hb, 0, none⟩), .pointer (some ⟨b + 2, 0, none⟩)] W
      fun e w' => e = .returned (.tuple #[]) ∧ Keep (fun x => x = hb) W w' ∧ TkI b sb hb S who alone now stale s (shut || (alone || a)) w' := by
  obtain ⟨va, vc, rfl⟩ : ∃ a c, v = .slice a l.length c := let ⟨_, a, c, e, _⟩ := hv; ⟨a, c, e⟩
  have c0 := cell_blk h.box.now 0
  have c1 := cell_blk h.box.stale 0
  simp at c0 c1
  have HF := Lib.hid (lkfresh_any hv (by omega) now stale hnow)
  unfold FreshPost15 at HF
  rw [hf] at HF
  have H := Lib.hid h
  clear h hv hl hf hnow
  cases shut
  all_goals cases alone
  all_goals
    go_enter Try.func25, Try.ntmps25
    go_wp2_with fail
    refine HF.out.mono ?_
    rintro e w1 ⟨s1, a1, rfl, ha, k1⟩
    obtain rfl := ha _ rfl
    have h1 := H.out.keep0 k1
    have hk := (Keep.refl (fun _ => False) w1).alloc (.cells #[.int .i64 s1, .bool a1] 65)
    have h2 := h1.keep0 hk
    have hne : ¬ hb = w1.heap.size := by have := lt_blk h1.shut; omega
    have c2 := cell_blk h2.shut 0
    have f2 := frozen_blk h2.shut 0
    have c3 := cell_blk h2.box.alone 0
    simp at c2 c3
    have K1 := Lib.hid (k1.trans hk); have H2 := Lib.hid h2
    clear h1 hk h2 k1 ha
    go_wp2_with fail
    go_end0
    exact ⟨rfl, Keep.setCell (F := fun x => x = hb) (K1.out.mono (fun _ _ e => e.elim)) (p := ⟨hb, 0, none⟩) (fun _ => rfl) _, H2.out.set (by rw [set_blk H2.out.shut]; rfl)⟩

/-- what stands behind a lock that may be stale -/
def TkEnds (b sb hb : Nat) (S : Nat → Prop) (who : Nat) (alone : Bool) (now stale : Int) (x : Except (Int × OS × Bool) (OS × Bool)) (W : World) (e : Ending) (w' : World) : Prop :=
  Keep (fun x => S x ∨ x = hb) W w' ∧ EndsAs (fun s t w => TkI b sb hb S who alone now stale s t w) x e w'

set_option maxRecDepth 100000 in
set_option maxHeartbeats 2000000 in
theorem tk_stale (h : TkI b sb hb S who alone now stale s shut W) (hnow : 0 ≤ now ∧ now ≤ 1125899906842624) (ho : s.ops < 4611686018427387904) {v : Value} {l : Bs} (hv : BytesAt W v l) (hl : l.length ≤ 1048576) (hf : freshB l now stale = none) (o : Nat) (nm : Bs) (hnm : nm.length ≤ 4096) :
    Calls Try.prog 25 #[.int .u64 (o : Nat), strV nm, v, .pointer (some ⟨b + 3, 0, none⟩), .pointer (some ⟨b + 4, 0, none⟩), .pointer (some ⟨b, 0, none⟩), .pointer (some ⟨hb, 0, none⟩), .pointer (some ⟨b + 2, 0, none⟩)] W
      (TkEnds b sb hb S who alone now stale (if s.getCode nm = 0 ∨ s.getCode nm = 4 then .ok (s.drop nm, shut) else .error (s.getCode nm, s.drop nm, shut)) W) := by
  obtain ⟨va, vc, rfl⟩ : ∃ a c, v = .slice a l.length c := let ⟨_, a, c, e, _⟩ := hv; ⟨a, c, e⟩
  have c0 := cell_blk h.box.now 0
  have c1 := cell_blk h.box.stale 0
  simp at c0 c1
  have HF := Lib.hid (lkfresh_any hv (by omega) now stale hnow)
  unfold FreshPost15 at HF
  rw [hf] at HF
  have hnz : (⟨nm.toArray⟩ : ByteArray).size ≤ maxLen := by show nm.toArray.size ≤ maxLen; unfold maxLen; rw [List.size_toArray]; omega
  have HD := Lib.hid (fun W (h : St W sb (.pointer none) S s) => h.drop (by rw [‹TkI b sb hb S who alone now stale s shut _›.left]; decide) ho ⟨nm.toArray⟩ hnz)
  unfold DropSt at HD
  dsimp only at HD
  obtain ⟨c, hc⟩ : ∃ c, c = s.getCode nm := ⟨_, rfl⟩
  obtain ⟨s2, hs2⟩ : ∃ x, x = s.drop nm := ⟨_, rfl⟩
  have hl2 : s2.left = -1 := by rw [hs2]; exact left_drop h.left nm
  rw [← hc, ← hs2] at HD ⊢
  have H := Lib.hid h; have HL2 := Lib.hid hl2
  clear h hv hl hf hnow hnz hc hs2 hl2 ho hnm
  have cls : c = 0 ∨ c = 4 ∨ (c ≠ 0 ∧ c ≠ 4) := by omega
  obtain ⟨X, hX⟩ : ∃ X, X = (if c = 0 ∨ c = 4 then Except.ok (s2, shut) else Except.error (c, s2, shut) : Except (Int × OS × Bool) (OS × Bool)) := ⟨_, rfl⟩
  rw [← hX]
  have HX := Lib.hid hX
  clear hX
  have DO := Lib.hid (show ∀ c', (c' = 0 ∨ c' = 4) → c = c' → X = .ok (s2, shut) from fun c' h e => by rw [HX.out, if_pos (by omega)])
  rcases cls with h0 | h4 | ⟨h0, h4⟩
  · have HOK := Lib.hid (DO.out 0 (by omega) h0)
    subst h0
    cases shut
    all_goals
      go_enter Try.func25, Try.ntmps25
      go_wp2_with fail
      refine HF.out.mono ?_
      rintro e w1 ⟨s1, a1, rfl, -, k1⟩
      have h1 := H.out.keep0 (k1.trans ((Keep.refl (fun _ => False) w1).alloc (.cells #[.int .i64 s1, .bool a1] 65)))
      have c2 := cell_blk h1.box.s 0
      simp at c2
      have K1 := Lib.hid (k1.trans ((Keep.refl (fun _ => False) w1).alloc (.cells #[.int .i64 s1, .bool a1] 65))); have H1 := Lib.hid h1
      clear h1 k1
      go_wp2_with fail
      refine (HD.out _ H1.out.st).mono ?_
      rintro e w3 ⟨rfl, h3, t3⟩
      have h4 := H1.out.turn h3 HL2.out t3
      have c3 := cell_blk h4.shut 0
      have f3 := frozen_blk h4.shut 0
      simp at c3
      have H4 := Lib.hid h4; have K3 := Lib.hid (show Keep (fun x => S x ∨ x = hb) W w3 from K1.out.trans' t3.keep (fun _ _ e => e.elim) (fun _ _ e => .inl e))
      clear h3 t3 h4
      go_wp2_with fail
      refine (lkgone_any _ _).mono ?_
      rintro e w4 ⟨rfl, rfl⟩
      rw [if_neg (by decide)]
      go_wp2_with fail
      refine (must_ok _).mono ?_
      rintro e w4 ⟨rfl, rfl⟩
      go_wp2
      go_end0
      have hk := Keep.setCell (F := fun x => S x ∨ x = hb) K3.out (p := ⟨hb, 0, none⟩) (fun _ => .inr rfl)
      refine ⟨hk _, ?_⟩
      rw [HOK.out]
      exact ⟨rfl, H4.out.set (by rw [set_blk H4.out.shut]; rfl)⟩
  · have HOK := Lib.hid (DO.out 4 (by omega) h4)
    subst h4
    cases shut
    all_goals
      go_enter Try.func25, Try.ntmps25
      go_wp2_with fail
      refine HF.out.mono ?_
      rintro e w1 ⟨s1, a1, rfl, -, k1⟩
      have h1 := H.out.keep0 (k1.trans ((Keep.refl (fun _ => False) w1).alloc (.cells #[.int .i64 s1, .bool a1] 65)))
      have c2 := cell_blk h1.box.s 0
      simp at c2
      have K1 := Lib.hid (k1.trans ((Keep.refl (fun _ => False) w1).alloc (.cells #[.int .i64 s1, .bool a1] 65))); have H1 := Lib.hid h1
      clear h1 k1
      go_wp2_with fail
      refine (HD.out _ H1.out.st).mono ?_
      rintro e w3 ⟨rfl, h3, t3⟩
      have h4 := H1.out.turn h3 HL2.out t3
      have c3 := cell_blk h4.shut 0
      have f3 := frozen_blk h4.shut 0
      simp at c3
      have H4 := Lib.hid h4; have K3 := Lib.hid (show Keep (fun x => S x ∨ x = hb) W w3 from K1.out.trans' t3.keep (fun _ _ e => e.elim) (fun _ _ e => .inl e))
      clear h3 t3 h4
      go_wp2_with fail
      refine (lkgone_any _ _).mono ?_
      rintro e w4 ⟨rfl, rfl⟩
      rw [if_pos rfl]
      go_wp2_with fail
      refine (must_ok _).mono ?_
      rintro e w4 ⟨rfl, rfl⟩
      go_wp2
      go_end0
      have hk := Keep.setCell (F := fun x => S x ∨ x = hb) K3.out (p := ⟨hb, 0, none⟩) (fun _ => .inr rfl)
      refine ⟨hk _, ?_⟩
      rw [HOK.out]
      exact ⟨rfl, H4.out.set (by rw [set_blk H4.out.shut]; rfl)⟩
  · have HER := Lib.hid (show X = .error (c, s2, shut) from by rw [HX.out, if_neg (by omega)])
    have H0 := Lib.hid h0; have H4' := Lib.hid h4
    clear h0 h4
    go_enter Try.func25, Try.ntmps25
    go_wp2_with fail
    refine HF.out.mono ?_
    rintro e w1 ⟨s1, a1, rfl, -, k1⟩
    have h1 := H.out.keep0 (k1.trans ((Keep.refl (fun _ => False) w1).alloc (.cells #[.int .i64 s1, .bool a1] 65)))
    have c2 := cell_blk h1.box.s 0
    simp at c2
    have K1 := Lib.hid (k1.trans ((Keep.refl (fun _ => False) w1).alloc (.cells #[.int .i64 s1, .bool a1] 65))); have H1 := Lib.hid h1
    clear h1 k1
    go_wp2_with fail
    refine (HD.out _ H1.out.st).mono ?_
    rintro e w3 ⟨rfl, h3, t3⟩
    have H4 := Lib.hid (H1.out.turn h3 HL2.out t3)
    have K3 := Lib.hid (show Keep (fun x => S x ∨ x = hb) W w3 from K1.out.trans' t3.keep (fun _ _ e => e.elim) (fun _ _ e => .inl e))
    clear h3 t3
    go_wp2_with fail
    refine (lkgone_any _ _).mono ?_
    rintro e w4 ⟨rfl, rfl⟩
    rw [if_neg H4'.out]
    go_wp2_with fail
    refine (must_err c H0.out _).mono ?_
    rintro e w4 ⟨rfl, rfl⟩
    exact ⟨rfl, K3.out, by rw [HER.out]; exact ⟨rfl, H4.out⟩⟩

theorem tk_step (h : TkI b sb hb S who alone now stale s shut W) (hnow : 0 ≤ now ∧ now ≤ 1125899906842624) (ho : s.ops < 4611686018427387904) {v : Value} {l : Bs} (hv : BytesAt W v l) (hl : l.length ≤ 1048576) (o : Nat) (nm : Bs) (hnm : nm.length ≤ 4096) :
    Calls Try.prog 25 #[.int .u64 (o : Nat), strV nm, v, .pointer (some ⟨b + 3, 0, none⟩), .pointer (some ⟨b + 4, 0, none⟩), .pointer (some ⟨b, 0, none⟩), .pointer (some ⟨hb, 0, none⟩), .pointer (some ⟨b + 2, 0, none⟩)] W
      (TkEnds b sb hb S who alone now stale (stepT alone now stale s shut o nm l) W) := by
  unfold stepT
  cases hf : freshB l now stale with
  | some a => exact (tk_fresh h hnow hv hl hf o nm).mono fun e w' ⟨h1, h2, h3⟩ => ⟨h2.mono (fun _ _ e => .inr e), h1, h3⟩
  | none => exact tk_stale h hnow ho hv hl hf o nm hnm
end
end Go.Proofs.Ytlajejbglpggeaa
