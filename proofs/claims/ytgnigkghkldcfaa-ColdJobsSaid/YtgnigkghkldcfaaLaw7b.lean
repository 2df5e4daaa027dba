/-
  coldstorelaw07.alive: the document's example. No condition.
-/
import Derived.Test.YtgnigkghkldcfaaLaw7a
namespace Go.Proofs.Ytgnigkghkldcfaa
open Go.RowKit Go.Proofs Go.Lib Go.Maps Go.Shelf

/-- a cold store that the call itself has made -/
structure C7 (w W : World) (cb sb mb : Nat) (f : Value) (S : Nat → Prop) (c : CS) : Prop where
  cold : ColdAt W cb sb mb f S c
  low : ∀ x, S x → w.heap.size ≤ x
  lcb : w.heap.size ≤ cb
  lmb : w.heap.size ≤ mb
  keep : Keep (fun _ => False) w W
section
variable {w W W' : World} {cb sb mb : Nat} {f : Value} {S : Nat → Prop} {c c' : CS}
theorem C7.still (j : C7 w W cb sb mb f S c) (h : Keep (fun _ => False) W W') : C7 w W' cb sb mb f S c := ⟨j.cold.keep0 h, j.low, j.lcb, j.lmb, j.keep.trans h⟩
theorem C7.same (j : C7 w W cb sb mb f S c) (h : ColdAt W' cb sb mb f S c') {F : Nat → Prop} (k : Keep F W W') (hF : ∀ x, F x → S x ∨ x = cb ∨ x = mb) : C7 w W' cb sb mb f S c' :=
  ⟨h, j.low, j.lcb, j.lmb, j.keep.trans' k (fun _ _ e => e) (fun i hi e => by
    rcases hF i e with e | e | e
    · have := j.low i e; omega
    · have := j.lcb; omega
    · have := j.lmb; omega)⟩
theorem C7.post (j : C7 w W cb sb mb f S c) (h : ColdPost cb sb mb f S c' W W') : ∃ S', C7 w W' cb sb mb f S' c' ∧ Keep (fun x => S x ∨ x = cb ∨ x = mb) W W' ∧ ∀ x, S' x → S x ∨ W.heap.size ≤ x := by
  obtain ⟨S', h1, h2, h3⟩ := h
  refine ⟨S', ⟨h1, fun x e => (h3 x e).elim (j.low x) (fun e => Nat.le_trans j.keep.size e), j.lcb, j.lmb, j.keep.trans' h2 (fun _ _ e => e) (fun i hi e => ?_)⟩, h2, h3⟩
  rcases e with e | e | e
  · have := j.low i e; omega
  · have := j.lcb; omega
  · have := j.lmb; omega
theorem C7.get (j : C7 w W cb sb mb f S c) {nm : Bs} {now : Int} {e : Ending} (h : CGetPost cb sb mb f S c nm now W e W') : ∃ v, e = .returned (.tuple #[v, .int .i64 (c.getCode nm now)]) ∧ C7 w W' cb sb mb f S { c with o := c.o.op } ∧ BytesAt W' v (c.getBytes nm now) ∧ (∀ x, vblk v = some x → W.heap.size ≤ x) ∧ ∃ a n k, v = .slice a n k := by
  obtain ⟨v, e1, h1, h2, h3, h4⟩ := h
  exact ⟨v, e1, j.same h1 h2 (fun _ => .inl), h3, h4, let ⟨_, a, k, e, _⟩ := h3; ⟨a, _, k, e⟩⟩
end

def kA : CS := (CS.new 100 1 5 10).put [120] [97, 98] 0
def kB : CS := { kA with o := kA.o.op }
def kC : CS := kB.req [120] 0 3
def kD : CS := { kC with o := kC.o.op }
def kE : CS := { kD with o := kD.o.op }
def kF : CS := kE.drop [120] 9 false
def kG : CS := kF.drop [120] 9 true
theorem k1 : (CS.new 100 1 5 10).o.putCode [120] [97, 98] = 0 := by decide
theorem k2 : kA.getCode [120] 0 = 32 := by decide
theorem k3 : kB.reqCode [120] 0 3 = 0 := by decide
theorem k4 : kC.state [120] 2 = 1 := by decide
theorem k5 : kC.getCode [120] 3 = 0 := by decide
theorem k6 : kC.getBytes [120] 3 = [97, 98] := by decide
theorem k7 : kD.getCode [120] 8 = 32 := by decide
theorem k8 : kE.dropCode [120] 9 false = 40 := by decide
theorem k9 : kF.dropCode [120] 9 true = 0 := by decide
theorem k10 : kG.pend 0 = 0 := by decide
theorem k11 : kG.lost = 1 := by decide
theorem k12 : kG.o.row = [] := by decide
theorem k13 : kG.state [120] 0 = -1 := by decide
theorem k14 : kG.failed [120] 0 = false := by decide
theorem k15 : kG.fail [120] 0 = kG := by unfold CS.fail; rw [k14]; rfl
theorem kl : kA.o.left = -1 ∧ kB.o.left = -1 ∧ kC.o.left = -1 ∧ kD.o.left = -1 ∧ kE.o.left = -1 ∧ kF.o.left = -1 := by decide
theorem ko : kA.o.ops = 1 ∧ kB.o.ops = 2 ∧ kC.o.ops = 3 ∧ kD.o.ops = 4 ∧ kE.o.ops = 5 ∧ kF.o.ops = 6 := by decide
theorem km : kA.notes.length = 1 ∧ kB.notes.length = 1 ∧ kC.notes.length = 1 ∧ kE.lost = 0 ∧ kF.lost = 0 := by decide

theorem C7.frozen {w W W' : World} {cb sb mb g : Nat} {f : Value} {S : Nat → Prop} {c : CS} (j : C7 w W cb sb mb f S c) (hk : Keep (· = g) W W') (hS : ¬ S g) (hw : w.heap.size ≤ g) (hg : ∃ C fr, W.heap[g]? = some (.cells C 5 fr)) : C7 w W' cb sb mb f S c := by
  refine ⟨j.cold.keep hk (fun x e => ?_), j.low, j.lcb, j.lmb, j.keep.trans' hk (fun _ _ e => e) (fun i hi e => by omega)⟩
  subst e
  obtain ⟨C, fr, hg⟩ := hg
  refine ⟨hS, fun e => ?_, fun e => ?_⟩
  · have := j.cold.blk; rw [← e, hg] at this; simp at this
  · exact MapP.ne j.cold.map hg e.symm

set_option maxRecDepth 100000 in
set_option maxHeartbeats 8000000 in
theorem alive7_any (w : World) : Calls Try.prog 40 #[] w fun e w' => e = .returned (.bool true) ∧ Keep (fun _ => False) w w' := by
  have HN := Lib.hid (fun W => cnew_arg 1 0 1 1 W (.inl (by decide)))
  go_enter Try.func40, Try.ntmps40
  go_wp2_with fail
  refine (cnew_any 100 1 5 10 w (by decide) (by decide) (by decide) (by decide)).mono ?_
  rintro e W1 ⟨cb, sb, mb, S1, rfl, h1, q1, q2, q3, q4⟩
  have j1 : C7 w W1 cb sb mb (.pointer none) S1 (CS.new 100 1 5 10) := ⟨h1, q2, q3, q4, q1⟩
  have hL1 : Litr w S1 (W1.alloc (.cells #[.int .u8 97, .int .u8 98] 5)) (.slice (some ⟨W1.heap.size, 0, none⟩) 2 2) [97, 98] := Litr.made W1 [97, 98] rfl rfl h1.st.lt q1.size
  have j1a := j1.still ((Keep.refl _ W1).alloc (.cells #[.int .u8 97, .int .u8 98] 5))
  obtain ⟨g, W2, hrun, hL2, hk2, hS2, hw2, hg2, hf2⟩ := hL1.convert
  have j2 := j1a.frozen hk2 hS2 hw2 hg2
  have hb2 := hL2.bytes (by decide)
  have J2 := Lib.hid j2; have B2 := Lib.hid hb2
  clear h1 q1 q2 q3 q4 j1 hL1 j1a hL2 hk2 hS2 hw2 hg2 hf2 j2 hb2
  go_wp2_with fail
  refine (cput_any J2.out.cold (by decide) (by decide) (by decide) (by decide) ⟨#[120]⟩ (by decide) _ [97, 98] B2.out (by decide) 0 (by decide)).mono ?_
  rintro e W3 ⟨rfl, p3⟩
  obtain ⟨S3, j3, -, -⟩ := J2.out.post p3
  rw [show (CS.new 100 1 5 10).o.putCode (⟨#[120]⟩ : ByteArray).data.toList [97, 98] = 0 from k1]
  have J3 := Lib.hid (show C7 w W3 cb sb mb (.pointer none) S3 kA from j3)
  clear p3 j3 hrun
  go_wp2_with fail
  refine (cget_any J3.out.cold (by rw [kl.1]; decide) (by rw [ko.1]; decide) ⟨#[120]⟩ (by decide) 0 (by decide)).mono ?_
  rintro e W4 h4
  obtain ⟨v, rfl, j4, -, -, va, vn, vk, rfl⟩ := J3.out.get h4
  rw [show kA.getCode (⟨#[120]⟩ : ByteArray).data.toList 0 = 32 from k2]
  have J4 := Lib.hid (show C7 w W4 cb sb mb (.pointer none) S3 kB from j4)
  clear h4 j4
  go_wp2_with fail
  refine (creq_any J4.out.cold (by rw [kl.2.1]; decide) (by rw [ko.2.1]; decide) (by rw [km.2.1]; decide) ⟨#[120]⟩ (by decide) 0 (by decide) 3 (by decide)).mono ?_
  rintro e W5 ⟨rfl, p5⟩
  obtain ⟨S5, j5, -, -⟩ := J4.out.post p5
  rw [show kB.reqCode (⟨#[120]⟩ : ByteArray).data.toList 0 3 = 0 from k3]
  have J5 := Lib.hid (show C7 w W5 cb sb mb (.pointer none) S5 kC from j5)
  clear p5 j5
  go_wp2_with fail
  refine (cstate_any J5.out.cold ⟨#[120]⟩ (by decide) 2 (by decide)).mono ?_
  rintro e W6 ⟨rfl, p6⟩
  rw [show kC.state (⟨#[120]⟩ : ByteArray).data.toList 2 = 1 from k4]
  have J6 := Lib.hid (J5.out.still p6)
  clear p6
  go_wp2_with fail
  refine (cget_any J6.out.cold (by rw [kl.2.2.1]; decide) (by rw [ko.2.2.1]; decide) ⟨#[120]⟩ (by decide) 3 (by decide)).mono ?_
  rintro e W7 h7
  obtain ⟨v7, rfl, j7, hv7, hn7, va7, vn7, vk7, rfl⟩ := J6.out.get h7
  rw [show kC.getCode (⟨#[120]⟩ : ByteArray).data.toList 3 = 0 from k5]
  rw [show kC.getBytes (⟨#[120]⟩ : ByteArray).data.toList 3 = [97, 98] from k6] at hv7
  have J7 := Lib.hid (show C7 w W7 cb sb mb (.pointer none) S5 kD from j7)
  have HV7 := Lib.hid hv7
  have HN7 := Lib.hid hn7
  have HS7 := Lib.hid (show ∀ x, vblk (.slice va7 vn7 vk7) = some x → ¬ S5 x from fun x e h => by
    have h1 := hn7 x e
    have h2 := J6.out.cold.st.lt x h
    omega)
  clear h7 j7 hv7 hn7
  go_wp2_with fail
  refine (cget_any J7.out.cold (by rw [kl.2.2.2.1]; decide) (by rw [ko.2.2.2.1]; decide) ⟨#[120]⟩ (by decide) 8 (by decide)).mono ?_
  rintro e W8 h8
  have hk8 := h8.choose_spec.2.2.1
  obtain ⟨v8, rfl, j8, -, -, va8, vn8, vk8, rfl⟩ := J7.out.get h8
  rw [show kD.getCode (⟨#[120]⟩ : ByteArray).data.toList 8 = 32 from k7]
  have J8 := Lib.hid (show C7 w W8 cb sb mb (.pointer none) S5 kE from j8)
  have HV8 := Lib.hid (show BytesAt W8 (.slice va7 vn7 vk7) [97, 98] from Sl.keep HV7.out hk8 (fun x _ e => HS7.out x e))
  clear h8 j8 hk8
  go_wp2_with fail
  refine (cdrop_any J8.out.cold (by rw [kl.2.2.2.2.1]; decide) (by rw [ko.2.2.2.2.1]; decide) (by rw [km.2.2.2.1]; decide) ⟨#[120]⟩ (by decide) 9 (by decide) false).mono ?_
  rintro e W9 ⟨rfl, p9⟩
  obtain ⟨S9, j9, kp9, gr9⟩ := J8.out.post p9
  rw [show kE.dropCode (⟨#[120]⟩ : ByteArray).data.toList 9 false = 40 from k8]
  have J9 := Lib.hid (show C7 w W9 cb sb mb (.pointer none) S9 kF from j9)
  have hno7 : ∀ x, vblk (.slice va7 vn7 vk7) = some x → ¬ (S5 x ∨ x = cb ∨ x = mb) ∧ x < W8.heap.size := fun x e => by
    have h1 := HN7.out x e
    have h2 := Sl.lt HV8.out (by decide) (by decide) e
    refine ⟨fun h => ?_, h2⟩
    rcases h with h | h | h
    · exact HS7.out x e h
    · have := J6.out.cold.lt.1; omega
    · have := J6.out.cold.lt.2; omega
  have HV9 := Lib.hid (show BytesAt W9 (.slice va7 vn7 vk7) [97, 98] from Sl.keep HV8.out kp9 (fun x _ e => (hno7 x e).1))
  have HS9 := Lib.hid (show ∀ x, vblk (.slice va7 vn7 vk7) = some x → ¬ (S9 x ∨ x = cb ∨ x = mb) from fun x e h => by
    rcases h with h | h
    · rcases gr9 x h with h | h
      · exact (hno7 x e).1 (.inl h)
      · have := (hno7 x e).2; omega
    · exact (hno7 x e).1 (.inr h))
  clear p9 j9 kp9 gr9 hno7
  go_wp2_with fail
  refine (cdrop_any J9.out.cold (by rw [kl.2.2.2.2.2]; decide) (by rw [ko.2.2.2.2.2]; decide) (by rw [km.2.2.2.2]; decide) ⟨#[120]⟩ (by decide) 9 (by decide) true).mono ?_
  rintro e W10 ⟨rfl, p10⟩
  obtain ⟨S10, j10, kp10, gr10⟩ := J9.out.post p10
  rw [show kF.dropCode (⟨#[120]⟩ : ByteArray).data.toList 9 true = 0 from k9]
  have J10 := Lib.hid (show C7 w W10 cb sb mb (.pointer none) S10 kG from j10)
  have HV10 := Lib.hid (show BytesAt W10 (.slice va7 vn7 vk7) [97, 98] from Sl.keep HV9.out kp10 (fun x _ e => HS9.out x e))
  clear p10 j10 kp10 gr10
  go_wp2_with fail
  refine (HN.out _).mono ?_
  rintro e W11 ⟨rfl, rfl⟩
  go_wp2_with fail
  refine (cpending_any J10.out.cold 0 (by decide)).mono ?_
  rintro e W12 ⟨rfl, p12⟩
  rw [k10]
  have J12 := Lib.hid (J10.out.still p12)
  have hconv := conv_str (show BytesAt W12 (.slice va7 vn7 vk7) [97, 98] from Sl.keep HV10.out p12 (fun _ _ _ e => e))
  clear p12
  go_wp2_with fail
  refine (lost_any J12.out.cold).mono ?_
  rintro e W13 ⟨rfl, rfl⟩
  rw [k11]
  have c0 : W12.cell? ⟨cb, 0, none⟩ = some (.pointer (some ⟨sb, 0, none⟩)) := by rw [cell_blk J12.out.cold.blk]; rfl
  go_wp2_with fail
  refine J12.out.cold.st.len.mono ?_
  rintro e W14 ⟨rfl, rfl⟩
  rw [k12]
  go_wp2_with fail
  refine J12.out.cold.st.size.mono ?_
  rintro e W15 ⟨rfl, rfl⟩
  rw [k12]
  go_wp2_with fail
  refine (cstate_any J12.out.cold ⟨#[120]⟩ (by decide) 0 (by decide)).mono ?_
  rintro e W16 ⟨rfl, p16⟩
  rw [show kG.state (⟨#[120]⟩ : ByteArray).data.toList 0 = -1 from k13]
  have J16 := Lib.hid (J12.out.still p16)
  clear p16
  go_wp2_with fail
  refine (cfail_any J16.out.cold (by decide) ⟨#[120]⟩ (by decide) 0 (by decide)).mono ?_
  rintro e W17 ⟨rfl, h17, p17⟩
  rw [show kG.failed (⟨#[120]⟩ : ByteArray).data.toList 0 = false from k14]
  rw [show kG.fail (⟨#[120]⟩ : ByteArray).data.toList 0 = kG from k15] at h17
  have J17 := Lib.hid (J16.out.same h17 p17 (fun _ e => .inr (.inr e)))
  clear h17 p17
  go_wp2_with fail
  refine (names7_empty J17.out.cold k12 9 (by decide) (by decide)).mono ?_
  rintro e W18 ⟨⟨x, rfl⟩, p18⟩
  have HK := Lib.hid (J17.out.keep.trans p18)
  clear p18
  go_wp2
  go_ret
  exact ⟨rfl, HK.out⟩
end Go.Proofs.Ytgnigkghkldcfaa
