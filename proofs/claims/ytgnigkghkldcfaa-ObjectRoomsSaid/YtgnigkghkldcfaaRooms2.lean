/-
  coldstorelaw06.ObjectRooms: a step caught.
-/
import Derived.Test.YtgnigkghkldcfaaRooms1
namespace Go.Proofs.Ytgnigkghkldcfaa
open Go.RowKit Go.Proofs Go.Lib

def RoomsRel (s : OS) (o : Op6) (s2 : OS) (c : Int) : Prop :=
  s2.quota = s.quota ∧ s2.ops ≤ s.ops + 1 ∧ (c = 0 → s2.row = if o.kind = 3 then delK o.name s.row else putK o.name o.b s.row) ∧ (c ≠ 0 → s2.row = s.row)

theorem roomsRel_go (s : OS) (o : Op6) : RoomsRel s o (s.rStep o) (s.rCode o) := by
  unfold RoomsRel OS.rStep OS.rCode
  by_cases hk : o.kind = 3
  · simp only [if_pos hk]
    unfold OS.drop
    by_cases h : s.getCode o.name = 0
    · rw [if_pos h]
      exact ⟨rfl, Int.le_refl _, fun _ => rfl, fun h' => absurd h h'⟩
    · rw [if_neg h]
      exact ⟨rfl, Int.le_refl _, fun h' => absurd h' h, fun _ => rfl⟩
  · simp only [if_neg hk]
    unfold OS.put
    by_cases h : s.putCode o.name o.b = 0
    · rw [if_pos h]
      exact ⟨rfl, Int.le_refl _, fun _ => rfl, fun h' => absurd h h'⟩
    · rw [if_neg h]
      exact ⟨rfl, Int.le_refl _, fun h' => absurd h' h, fun _ => rfl⟩
theorem roomsRel_blow (s : OS) (o : Op6) : RoomsRel s o s 41 := ⟨rfl, by omega, fun h => absurd h (by decide), fun _ => rfl⟩

/-- the store, its box, and a map of the call's own -/
structure RI (w : World) (sb hb ps : Nat) (f : Value) (S : Nat → Prop) (s : OS) (m : List (Bs × Value)) (W : World) : Prop where
  st : St W sb f S s
  map : MapP Try.prog 9 W hb m
  nin : ¬ S hb
  hi : w.heap.size ≤ hb
  box : W.heap[ps]? = some (.cells #[.pointer (some ⟨sb, 0, none⟩)] 26 (0, 0))
  nbox : ¬ S ps
  phi : w.heap.size ≤ ps
  low : ∀ x, S x → w.heap.size ≤ x
  keep : Keep (fun _ => False) w W

section
variable {w : World} {sb hb ps : Nat} {f f' : Value} {S S' : Nat → Prop} {s s' : OS} {m m' : List (Bs × Value)} {W W' : World}
theorem RI.ne (j : RI w sb hb ps f S s m W) : hb ≠ ps := MapP.ne j.map j.box
theorem RI.still (j : RI w sb hb ps f S s m W) (hk : Keep (fun _ => False) W W') : RI w sb hb ps f S s m W' :=
  ⟨j.st.keep0 hk, j.map.keep hk id, j.nin, j.hi, hk.heap j.box id, j.nbox, j.phi, j.low, j.keep.trans hk⟩
theorem RI.turn' (j : RI w sb hb ps f S s m W) {F : Nat → Prop} (h : St W' sb f' S' s') (hk : Keep F W W') (hF : ∀ x, x < W.heap.size → F x → w.heap.size ≤ x ∧ x ≠ hb ∧ x ≠ ps) (hg : ∀ x, S' x → S x ∨ W.heap.size ≤ x ∨ (w.heap.size ≤ x ∧ x ≠ hb ∧ x ≠ ps)) : RI w sb hb ps f' S' s' m W' :=
  ⟨h, j.map.keep hk (fun e => (hF _ j.map.lt e).2.1 rfl), fun e => (hg _ e).elim j.nin (fun h => h.elim (fun h => by have := j.map.lt; omega) (fun h => h.2.1 rfl)), j.hi, hk.heap j.box (fun e => (hF _ (lt_blk j.box) e).2.2 rfl), fun e => (hg _ e).elim j.nbox (fun h => h.elim (fun h => by have := lt_blk j.box; omega) (fun h => h.2.2 rfl)), j.phi,
    fun x e => (hg x e).elim (j.low x) (fun h => h.elim (fun h => Nat.le_trans j.keep.size h) (·.1)), j.keep.trans' hk (fun _ _ e => e) (fun k hk e => by have := (hF k (Nat.lt_of_lt_of_le hk j.keep.size) e).1; omega)⟩
theorem RI.turn (j : RI w sb hb ps f S s m W) (h : St W' sb f S' s') (ht : Turn S S' W W') : RI w sb hb ps f S' s' m W' :=
  j.turn' h ht.keep (fun x _ e => ⟨j.low x e, fun h => j.nin (by rw [← h]; exact e), fun h => j.nbox (by rw [← h]; exact e)⟩) (fun x e => (ht.grow x e).elim .inl (fun e => .inr (.inl e)))
theorem RI.put (j : RI w sb hb ps f S s m W) (hm : MapP Try.prog 9 W' hb m') (hk : Keep (· = hb) W W') : RI w sb hb ps f S s m' W' :=
  ⟨j.st.keep hk (fun x e => by rw [e]; exact j.nin), hm, j.nin, j.hi, hk.heap j.box (fun e => j.ne e.symm), j.nbox, j.phi, j.low, j.keep.trans' hk (fun _ _ e => e) (fun k hk e => by have := j.hi; omega)⟩
end

set_option maxRecDepth 100000 in
theorem rooms_catch {w W : World} {sb hb ps po pe fb : Nat} {S : Nat → Prop} {s : OS} {m : List (Bs × Value)} {o : Op6} {bv : Value} (j : RI w sb hb ps (.pointer (some ⟨fb, 0, none⟩)) S s m W) (hb1 : RBox po ps pe sb o bv W) (hn : o.name.length ≤ 100) (hbl : o.b.length ≤ 200) (ho : s.ops < 4611686018427387904)
    (hpo : ¬ S po) (hpe : ¬ S pe) (hope : po ≠ pe) (hpe2 : w.heap.size ≤ pe) (hbw : ∀ x, 0 < o.b.length → vblk bv = some x → x < w.heap.size) :
    Calls Try.prog 22 #[.pointer (some ⟨fb, 0, none⟩), .func (.func 27) #[] #[.pointer (some ⟨po, 0, none⟩), .pointer (some ⟨ps, 0, none⟩), .pointer (some ⟨pe, 0, none⟩)]] W fun e W2 =>
      ∃ (yes : Bool) (c : Int) (S2 : Nat → Prop) (s2 : OS), e = .returned (.bool yes) ∧ RI w sb hb ps (.pointer (some ⟨fb, 0, none⟩)) S2 s2 m W2 ∧ W2.heap[po]? = some (.cells #[.int .i64 o.kind, strV o.name, bv] 38 (0, 0)) ∧ W2.heap[pe]? = some (.cells #[.int .i64 c] 27 (0, 0)) ∧ BytesAt W2 bv o.b ∧ RoomsRel s o s2 c := by
  have hcw := catchW_keep W fb
  have jc := j.still hcw
  have hc1 := hb1.keep hcw
  have hsz : (catchW W fb).heap.size = W.heap.size + 2 := by simp [catchW]
  have hlt := j.st.lt
  have hpel := lt_blk hb1.be
  have hpol := lt_blk hb1.bo
  have hpehb : pe ≠ hb := fun e => MapP.ne j.map hb1.be e.symm
  have hpeps : pe ≠ ps := fun e => by have h1 := hb1.be; have h2 := hb1.bs; rw [e] at h1; rw [h1] at h2; simp at h2
  have E := enters_of Try.func27 (by kernel_rfl) rfl
  by_cases hl : s.left = 0
  · have hR := (rooms1_blow jc.st hl hc1 hn hbl).mono (R' := fun e w' => (e = .returned (.tuple #[]) ∧ False) ∨ (e = .panicked (blowChain fb) ∧ Keep (fun _ => False) (catchW W fb) w')) (fun e w' h => .inr h)
    refine (catch_any fb ⟨27, #[], #[.pointer (some ⟨po, 0, none⟩), .pointer (some ⟨ps, 0, none⟩), .pointer (some ⟨pe, 0, none⟩)]⟩ E W #[.pointer (some ⟨po, 0, none⟩), .pointer (some ⟨ps, 0, none⟩), .pointer (some ⟨pe, 0, none⟩)] rfl (fun _ => False) (fun w' => Keep (fun _ => False) (catchW W fb) w') (fun _ h => h.elim) (fun w' h => h.mono (fun _ _ e => e.elim)) hR).mono ?_
    rintro e W2 ⟨w1, (⟨_, h⟩ | ⟨rfl, hk⟩), hk2⟩
    · exact h.elim
    · have hkk : Keep (fun _ => False) W W2 := (hcw.trans hk).trans' hk2 (fun _ _ e => e) (fun i hi e => by omega)
      have h3 := hb1.keep hkk
      exact ⟨true, 41, S, s, rfl, j.still hkk, h3.bo, h3.be, h3.bb, roomsRel_blow s o⟩
  · have hR := (rooms1_go jc.st hl ho hc1 hn hbl hpe).mono (R' := fun e w' => (e = .returned (.tuple #[]) ∧ Rooms1 S sb pe (.pointer (some ⟨fb, 0, none⟩)) (s.rStep o) (s.rCode o) (catchW W fb) w') ∨ (e = .panicked (blowChain fb) ∧ False)) (fun e w' h => .inl h)
    refine (catch_any fb ⟨27, #[], #[.pointer (some ⟨po, 0, none⟩), .pointer (some ⟨ps, 0, none⟩), .pointer (some ⟨pe, 0, none⟩)]⟩ E W #[.pointer (some ⟨po, 0, none⟩), .pointer (some ⟨ps, 0, none⟩), .pointer (some ⟨pe, 0, none⟩)] rfl _ (fun _ => False) ?_ (fun _ h => h.elim) hR).mono ?_
    · rintro w' ⟨S', h1, h2, h3, h4⟩
      exact h2.mono (fun i _ e => e.elim (fun e => hlt i e) (fun e => by omega))
    · rintro e W2 ⟨w1, (⟨rfl, ⟨S', h1, h2, h3, h4⟩⟩ | ⟨_, h⟩), hk2⟩
      · have hpe1 := lt_blk h4
        have hsz1 := h2.size
        have hS' : ∀ x, S' x → x ≠ W.heap.size + 1 := fun x e h => by
          rcases h3 x e with e | e
          · have := hlt x e; omega
          · omega
        have hkk : Keep (fun x => S x ∨ x = pe) W W2 := ((hcw.trans' h2 (fun _ _ e => e.elim) (fun _ _ e => e))).trans' hk2 (fun _ _ e => e) (fun i hi e => by omega)
        refine ⟨false, _, S', _, rfl, j.turn' (h1.keep hk2 (fun x e h => hS' x h e)) hkk ?_ ?_, ?_, hk2.heap h4 (by omega), ?_, roomsRel_go s o⟩
        · rintro x hx (e | e)
          · exact ⟨j.low x e, fun h => j.nin (by rw [← h]; exact e), fun h => j.nbox (by rw [← h]; exact e)⟩
          · rw [e]; exact ⟨hpe2, hpehb, hpeps⟩
        · intro x e
          rcases h3 x e with e | e
          · exact .inl e
          · exact .inr (.inl (by omega))
        · exact hkk.heap hb1.bo (fun e => e.elim hpo hope)
        · refine Sl.keep hb1.bb hkk (fun x hp e h => ?_)
          have := hbw x hp e
          rcases h with h | h
          · have := j.low x h; omega
          · omega
      · exact h.elim
end Go.Proofs.Ytgnigkghkldcfaa
