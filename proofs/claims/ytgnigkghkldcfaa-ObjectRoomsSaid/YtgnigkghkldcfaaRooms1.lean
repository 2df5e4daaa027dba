/-
  coldstorelaw06.ObjectRooms: a step under the fuse.
-/
import Derived.Test.YtgnigkghkldcfaaListsLaw
import Derived.Test.YtgnigkghkldcfaaOps6
namespace Go.Proofs.Ytgnigkghkldcfaa
open Go.RowKit Go.Proofs Go.Lib

def OS.rCode (s : OS) (o : Op6) : Int := if o.kind = 3 then s.getCode o.name else s.putCode o.name o.b
def OS.rStep (s : OS) (o : Op6) : OS := if o.kind = 3 then s.drop o.name else s.put o.name o.b

/-- the boxes that the closure has -/
structure RBox (po ps pe sb : Nat) (o : Op6) (bv : Value) (W : World) : Prop where
  bo : W.heap[po]? = some (.cells #[.int .i64 o.kind, strV o.name, bv] 38 (0, 0))
  bs : W.heap[ps]? = some (.cells #[.pointer (some ⟨sb, 0, none⟩)] 26 (0, 0))
  be : W.heap[pe]? = some (.cells #[.int .i64 41] 27 (0, 0))
  bb : BytesAt W bv o.b
theorem RBox.keep {po ps pe sb : Nat} {o : Op6} {bv : Value} {W W' : World} (h : RBox po ps pe sb o bv W) (hk : Keep (fun _ => False) W W') : RBox po ps pe sb o bv W' :=
  ⟨hk.heap h.bo id, hk.heap h.bs id, hk.heap h.be id, Sl.keep h.bb hk (fun _ _ _ e => e)⟩

def Rooms1 (S : Nat → Prop) (sb pe : Nat) (f : Value) (s' : OS) (c : Int) (W W' : World) : Prop :=
  ∃ S', St W' sb f S' s' ∧ Keep (fun x => S x ∨ x = pe) W W' ∧ (∀ x, S' x → S x ∨ W.heap.size ≤ x) ∧ W'.heap[pe]? = some (.cells #[.int .i64 c] 27 (0, 0))

theorem rooms1_blow {W : World} {sb fb po ps pe : Nat} {S : Nat → Prop} {s : OS} {o : Op6} {bv : Value} (h : St W sb (.pointer (some ⟨fb, 0, none⟩)) S s) (hl : s.left = 0) (hb : RBox po ps pe sb o bv W) (_hn : o.name.length ≤ 100) (hbl : o.b.length ≤ 200) :
    Calls Try.prog 27 #[.pointer (some ⟨po, 0, none⟩), .pointer (some ⟨ps, 0, none⟩), .pointer (some ⟨pe, 0, none⟩)] W fun e W' => e = .panicked (blowChain fb) ∧ Keep (fun _ => False) W W' := by
  have c0 := cell_blk hb.bo 0
  have c1 := cell_blk hb.bo 1
  have c2 := cell_blk hb.bo 2
  have c3 := cell_blk hb.bs 0
  simp at c0 c1 c2 c3
  obtain ⟨kind, name, bs⟩ := o
  obtain ⟨ba, bc, rfl⟩ : ∃ a c, bv = .slice a bs.length c := let ⟨_, a, c, e, _⟩ := hb.bb; ⟨a, c, e⟩
  dsimp only at c0 c1 hbl
  have H := Lib.hid h
  clear h hb
  by_cases hk : kind = 3
  · subst hk
    go_enter Try.func27, Try.ntmps27
    go_wp2_with fail
    refine (H.out.drop_blow hl _).mono ?_
    rintro e W' ⟨rfl, hk⟩
    exact ⟨rfl, rfl, hk⟩
  · have hk' : (kind == 3) = false := by simpa using hk
    go_enter Try.func27, Try.ntmps27
    go_wp2_with fail
    refine (H.out.put_blow hl _ _ _ _).mono ?_
    rintro e W' ⟨rfl, hk⟩
    exact ⟨rfl, rfl, hk⟩

theorem rooms1_go {W : World} {sb po ps pe : Nat} {f : Value} {S : Nat → Prop} {s : OS} {o : Op6} {bv : Value} (h : St W sb f S s) (hl : s.left ≠ 0) (ho : s.ops < 4611686018427387904) (hb : RBox po ps pe sb o bv W) (hn : o.name.length ≤ 100) (hbl : o.b.length ≤ 200) (hpe : ¬ S pe) :
    Calls Try.prog 27 #[.pointer (some ⟨po, 0, none⟩), .pointer (some ⟨ps, 0, none⟩), .pointer (some ⟨pe, 0, none⟩)] W fun e W' => e = .returned (.tuple #[]) ∧ Rooms1 S sb pe f (s.rStep o) (s.rCode o) W W' := by
  have c0 := cell_blk hb.bo 0
  have c1 := cell_blk hb.bo 1
  have c2 := cell_blk hb.bo 2
  have c3 := cell_blk hb.bs 0
  simp at c0 c1 c2 c3
  obtain ⟨kind, name, bs⟩ := o
  obtain ⟨ba, bc, rfl⟩ : ∃ a c, bv = .slice a bs.length c := let ⟨_, a, c, e, _⟩ := hb.bb; ⟨a, c, e⟩
  dsimp only at c0 c1 hbl hn
  have H := Lib.hid h
  have HB := Lib.hid hb
  have hsz : (⟨name.toArray⟩ : ByteArray).size ≤ maxLen := by unfold maxLen; simp [ByteArray.size]; omega
  clear h hb
  have fin : ∀ (W1 : World) (S1 : Nat → Prop) (s1 : OS) (c : Int), St W1 sb f S1 s1 → Turn S S1 W W1 → Rooms1 S sb pe f s1 c W (W1.setCell ⟨pe, 0, none⟩ (.int .i64 c)) := by
    intro W1 S1 s1 c h1 t1
    have he := t1.keep.heap HB.out.be hpe
    refine ⟨S1, h1.keep (F := (· = pe)) ((Keep.refl (· = pe) W1).setCell (p := ⟨pe, 0, none⟩) (fun _ => rfl) _) (fun x e => by rw [e]; exact t1.not hpe (lt_blk HB.out.be)), (t1.keep.mono (fun _ _ e => .inl e)).setCell (p := ⟨pe, 0, none⟩) (fun _ => .inr rfl) _, t1.grow, ?_⟩
    rw [set_blk he 0]; rfl
  have HFIN := Lib.hid fin
  clear fin
  by_cases hk : kind = 3
  · subst hk
    have e1 : OS.rStep s ⟨3, name, bs⟩ = s.drop name := rfl
    have e2 : OS.rCode s ⟨3, name, bs⟩ = s.getCode name := rfl
    have E1 := Lib.hid e1; have E2 := Lib.hid e2; clear e1 e2
    go_enter Try.func27, Try.ntmps27
    go_wp2_with fail
    refine (H.out.drop hl ho ⟨name.toArray⟩ hsz).mono ?_
    rintro e W1 ⟨rfl, h1, t1⟩
    have he := t1.keep.heap HB.out.be hpe
    have f1 := frozen_blk he 0
    have c4 := cell_blk he 0
    simp at c4
    have hf := HFIN.out W1 _ _ (s.getCode name) h1 t1
    have HF := Lib.hid hf
    clear h1 t1 hf he
    go_wp2
    go_end0
    exact ⟨rfl, by rw [E1.out, E2.out]; exact HF.out⟩
  · have hk' : (kind == 3) = false := by simpa using hk
    have e1 : OS.rStep s ⟨kind, name, bs⟩ = s.put name bs := by unfold OS.rStep; rw [if_neg hk]
    have e2 : OS.rCode s ⟨kind, name, bs⟩ = s.putCode name bs := by unfold OS.rCode; rw [if_neg hk]
    have E1 := Lib.hid e1; have E2 := Lib.hid e2; clear e1 e2
    go_enter Try.func27, Try.ntmps27
    go_wp2_with fail
    refine (H.out.put hl ho ⟨name.toArray⟩ hsz _ bs HB.out.bb (by omega)).mono ?_
    rintro e W1 ⟨S1, rfl, h1, t1⟩
    have he := t1.keep.heap HB.out.be hpe
    have f1 := frozen_blk he 0
    have c4 := cell_blk he 0
    simp at c4
    have hf := HFIN.out W1 _ _ (s.putCode name bs) h1 t1
    have HF := Lib.hid hf
    clear h1 t1 hf he
    go_wp2
    go_end0
    exact ⟨rfl, by rw [E1.out, E2.out]; exact HF.out⟩
end Go.Proofs.Ytgnigkghkldcfaa
