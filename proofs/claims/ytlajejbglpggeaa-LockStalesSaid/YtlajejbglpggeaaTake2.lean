/-
  lock.Take.
-/
import Derived.Test.YtlajejbglpggeaaTake1
import Derived.Test.YtlajejbglpggeaaEachOps
import Derived.Test.YtlajejbglpggeaaDraw
namespace Go.Proofs.Ytlajejbglpggeaa
open Go.RowKit Go.Proofs Go.Lib

/-- behind the question of the times -/
def takeFin (who : Nat) (alone : Bool) (now : Int) : Except (Int × OS × Bool) (OS × Bool) → OS × Int
  | .error (k, s', _) => (s', k)
  | .ok (s', shut) => if shut = true then (s', 34) else (s'.put (nameB who) (lockB now.toNat alone), s'.putCode (nameB who) (lockB now.toNat alone))
def takeC (who : Nat) (alone : Bool) (now stale : Int) (s : OS) : OS × Int := takeFin who alone now (eachW (fun o => o == who) (stepT alone now stale) s false)

theorem TkBox.cells {b sb who : Nat} {alone : Bool} {now stale : Int} {W : World} (h : TkBox b sb who alone now stale W) :
    W.cell? ⟨b, 0, none⟩ = some (.pointer (some ⟨sb, 0, none⟩)) ∧ W.cell? ⟨b + 1, 0, none⟩ = some (.int .u64 who) ∧ W.cell? ⟨b + 2, 0, none⟩ = some (.bool alone) ∧ W.cell? ⟨b + 3, 0, none⟩ = some (.int .i64 now) ∧ W.cell? ⟨b + 4, 0, none⟩ = some (.int .i64 stale) :=
  ⟨by rw [cell_blk h.s]; rfl, by rw [cell_blk h.who]; rfl, by rw [cell_blk h.alone]; rfl, by rw [cell_blk h.now]; rfl, by rw [cell_blk h.stale]; rfl⟩

structure TJ (W0 : World) (b sb : Nat) (S : Nat → Prop) (who : Nat) (alone : Bool) (now stale : Int) (L : Bs) (C : Int) (s2 : OS) (b6 b7 e8 : Bool) (q18 q19 : Value) (W : World) : Prop where
  n8 : e8 = true → False
  box : TkBox b sb who alone now stale W
  pre : b7 = false → Keep (fun _ => False) W0 W
  m6 : b6 = true → b7 = false → BytesAt W q18 L
  m7 : b7 = true → q19 = .int .i64 C ∧ ∃ S', St W sb (.pointer none) S' s2 ∧ Turn S S' W0 W
section
variable {W0 : World} {b sb : Nat} {S : Nat → Prop} {who : Nat} {alone : Bool} {now stale : Int} {L : Bs} {C : Int} {s2 : OS} {b6 b7 e8 : Bool} {q18 q19 v : Value} {W W' : World}
theorem Turn.then0 {S S' : Nat → Prop} {w w1 w2 : World} (h : Turn S S' w w1) (k : Keep (fun _ => False) w1 w2) : Turn S S' w w2 := ⟨h.keep.trans' k (fun _ _ e => e) (fun _ _ e => e.elim), h.grow⟩
theorem Turn.after0 {S S' : Nat → Prop} {w w1 w2 : World} (k : Keep (fun _ => False) w w1) (h : Turn S S' w1 w2) : Turn S S' w w2 := ⟨k.trans' h.keep (fun _ _ e => e.elim) (fun _ _ e => e), fun x e => (h.grow x e).imp id (fun e => Nat.le_trans k.size e)⟩
theorem TJ.start (h : TkBox b sb who alone now stale W0) : TJ W0 b sb S who alone now stale L C s2 false false false q18 q19 W0.drew :=
  ⟨(fun e => by cases e), h.keep (Keep.refl (fun _ => False) W0).drew (fun _ _ _ e => e), fun _ => (Keep.refl _ W0).drew, (fun e => by cases e), (fun e => by cases e)⟩
theorem TJ.still (j : TJ W0 b sb S who alone now stale L C s2 b6 b7 e8 q18 q19 W) (k : Keep (fun _ => False) W W') : TJ W0 b sb S who alone now stale L C s2 b6 b7 e8 q18 q19 W' :=
  ⟨j.n8, j.box.keep k (fun _ _ _ e => e), fun e => (j.pre e).trans k, fun e1 e2 => Sl.keep (j.m6 e1 e2) k (fun _ _ _ e => e), fun e => let ⟨h1, S', h2, h3⟩ := j.m7 e; ⟨h1, S', h2.keep0 k, h3.then0 k⟩⟩
theorem TJ.made (j : TJ W0 b sb S who alone now stale L C s2 b6 b7 e8 q18 q19 W) (hb : BytesAt W' v L) (k : Keep (fun _ => False) W W') : TJ W0 b sb S who alone now stale L C s2 true b7 e8 v q19 W' :=
  ⟨j.n8, (j.still k).box, (j.still k).pre, fun _ _ => hb, (j.still k).m7⟩
theorem TJ.put (j : TJ W0 b sb S who alone now stale L C s2 b6 false e8 q18 q19 W) (hn : ∀ x, S x → x < b ∨ b + 4 < x) {S' : Nat → Prop} (h : St W' sb (.pointer none) S' s2) (t : Turn S S' W W') : TJ W0 b sb S who alone now stale L C s2 b6 true e8 q18 (.int .i64 C) W' :=
  ⟨j.n8, j.box.keep t.keep (fun x h1 h2 e => by have := hn x e; omega), (fun e => by cases e), (fun _ e => by cases e), fun _ => ⟨rfl, S', h, t.after0 (j.pre rfl)⟩⟩
end

/-- what the body comes to -/
def TakeC (sb : Nat) (S : Nat → Prop) (x : OS × Int) (W : World) (e : Ending) (w' : World) : Prop :=
  ((e = .returned (.tuple #[]) ∧ x.2 = 0) ∨ e = .panicked (errChain x.2)) ∧ ∃ S', St w' sb (.pointer none) S' x.1 ∧ Turn S S' W w'

set_option maxRecDepth 100000 in
set_option maxHeartbeats 4000000 in
theorem take1_any {W : World} {b sb : Nat} {S : Nat → Prop} {who : Nat} {alone : Bool} {now stale : Int} {s : OS} (hst : St W sb (.pointer none) S s) (hleft : s.left = -1) (hbox : TkBox b sb who alone now stale W) (hnb : ∀ x, S x → x < b ∨ b + 4 < x)
    (hwho : who < 18446744073709551616) (hnow : 0 ≤ now ∧ now ≤ 1125899906842624) (ho : s.ops ≤ 4000000000000000000) :
    Calls Try.prog 22 #[.pointer (some ⟨b, 0, none⟩), .pointer (some ⟨b + 1, 0, none⟩), .pointer (some ⟨b + 3, 0, none⟩), .pointer (some ⟨b + 4, 0, none⟩), .pointer (some ⟨b + 2, 0, none⟩)] W (TakeC sb S (takeC who alone now stale s) W) := by
  have hmf : ∀ (fn : Fn) (first cap : Array Value) (w : World), (Instr.makeFunc fn first cap).run Try.prog w = .ok (.func fn first cap) w := fun _ _ _ _ => rfl
  have ka := (Keep.refl (fun _ => False) W).alloc (.cells #[.bool false] 4)
  have hsh := alloc_new W (.cells #[.bool false] 4)
  obtain ⟨W1, hW1⟩ : ∃ W1, W1 = W.alloc (.cells #[.bool false] 4) := ⟨_, rfl⟩
  have hz : W1.heap.size = W.heap.size + 1 := by rw [hW1]; simp
  rw [← hW1] at ka hsh
  have hb4 := lt_blk hbox.stale
  have hSl := hst.lt
  have hI : TkI b sb W.heap.size S who alone now stale s false W1 := ⟨hst.keep0 ka, hleft, hbox.keep ka (fun _ _ _ e => e), hsh, hnb, fun e => by have := hSl _ e; omega, by omega⟩
  have hH : EachH W1 sb S (fun x => S x ∨ x = W.heap.size) (fun p _ s t w => TkI b sb W.heap.size S who alone now stale s t w ∧ ∀ x, p x → ¬ (S x ∨ x = W.heap.size)) ⟨24, #[], #[.pointer (some ⟨b + 1, 0, none⟩)]⟩ ⟨25, #[], #[.pointer (some ⟨b + 3, 0, none⟩), .pointer (some ⟨b + 4, 0, none⟩), .pointer (some ⟨b, 0, none⟩), .pointer (some ⟨W.heap.size, 0, none⟩), .pointer (some ⟨b + 2, 0, none⟩)]⟩ (fun o => o == who) (stepT alone now stale) := {
    st := fun _ _ _ _ _ h => h.1.st
    left := fun _ _ _ _ _ h => h.1.left
    up := fun _ _ _ _ _ h => h
    got := fun _ _ _ _ _ _ h h1 t => ⟨h.1.turn h1 (left_op h.1.left) t, h.2⟩
    init := fun _ _ _ _ _ h h1 t hp => ⟨h.1.turn h1 (left_op h.1.left) t, fun x hx e => by
      have h2 := (hp x hx).1
      rcases e with e | e
      · have := h.1.st.lt x e; omega
      · have := lt_blk h.1.shut; omega⟩
    sk := fun _ e => .inl e
    low := fun x e => by rcases e with e | e; exact (by have := hSl x e; omega); omega
    eb := enters_of Try.func24 (by kernel_rfl) rfl
    ed := enters_of Try.func25 (by kernel_rfl) rfl
    but := fun _ _ _ _ _ o h _ => tk_but h.1 o
    stepd := fun _ _ _ _ _ o nm bts v h _ h1 h2 h3 h4 _ => (tk_step h.1 hnow h1 h2 h3 o nm h4).mono fun e w' hq => ⟨hq.1.mono (fun i _ e => ⟨fun hp => h.2 i hp e, .inl e⟩), by
      have hq := hq.2
      unfold EndsAs at hq ⊢
      split at hq
      · exact ⟨hq.1, hq.2, h.2⟩
      · exact ⟨hq.1, hq.2, h.2⟩⟩
    ops := fun s1 t1 o nm bts s2 t2 e => by
      unfold stepT at e
      split at e
      · cases e; omega
      · split at e
        · cases e
          show (s1.drop nm).ops ≤ _
          unfold OS.drop
          split <;> exact Int.le_refl _
        · cases e }
  have HEA := Lib.hid (each_any hH ⟨hI, fun _ e => e.elim⟩ ho)
  dsimp only [Clo.val] at HEA
  have hkeep : ∀ w', Keep (fun x => S x ∨ x = W.heap.size) W1 w' → Keep S W w' := fun w' k => ka.trans' k (fun _ _ e => e.elim) (fun i hi e => e.elim id (fun e => by omega))
  have HKE := Lib.hid hkeep
  have HW1 := Lib.hid hW1
  have HWH := Lib.hid hwho; have HNO := Lib.hid hnow; have HNB := Lib.hid hnb
  have hops := eachW_ops (butF := fun o => o == who) (stepT_ops alone now stale) hst.ok.many false
  obtain ⟨X, hX⟩ : ∃ X, X = eachW (fun o => o == who) (stepT alone now stale) s false := ⟨_, rfl⟩
  have hT : takeC who alone now stale s = takeFin who alone now X := by rw [hX]; rfl
  rw [← hX] at HEA hops
  have HOPS := Lib.hid (show (resS X).ops < 4611686018427387904 by omega)
  clear hops
  have HT := Lib.hid hT
  have c0 : (W.alloc (.cells #[.bool false] 4)).cell? ⟨b, 0, none⟩ = some (.pointer (some ⟨sb, 0, none⟩)) := by rw [← hW1, cell_blk hI.box.s]; rfl
  clear hst hleft hbox hnb hwho hnow ho ka hsh hz hb4 hSl hI hH hkeep hX hT
  obtain ⟨hb0, hWs⟩ : ∃ x, x = W.heap.size := ⟨_, rfl⟩
  have HWS := Lib.hid hWs
  rw [← hWs] at HEA HKE
  clear hWs
  go_enter Try.func22, Try.ntmps22
  go_wp2_with fail
  rw [← HW1.out, ← HWS.out]
  refine HEA.out.mono ?_
  rintro e w2 ⟨k2, p, -, he⟩
  have HK2 := Lib.hid (HKE.out _ k2)
  clear k2
  cases X with
  | error y =>
    obtain ⟨k, s', t'⟩ := y
    obtain ⟨rfl, hI', -⟩ := he
    refine ⟨rfl, .inr ?_, ?_⟩
    · rw [HT.out]; rfl
    · rw [HT.out]; exact ⟨S, hI'.st, HK2.out, fun _ => .inl⟩
  | ok y =>
    obtain ⟨s', shut⟩ := y
    obtain ⟨rfl, hI', -⟩ := he
    have c5 := cell_blk hI'.shut 0
    simp at c5
    cases shut
    · have hT2 : takeC who alone now stale s = (s'.put (nameB who) (lockB now.toNat alone), s'.putCode (nameB who) (lockB now.toNat alone)) := HT.out
      have hnm : (⟨(nameB who).toArray⟩ : ByteArray).size ≤ maxLen := by show (nameB who).toArray.size ≤ maxLen; rw [List.size_toArray, nameB_length]; decide
      obtain ⟨C, hC⟩ : ∃ C, C = s'.putCode (nameB who) (lockB now.toNat alone) := ⟨_, rfl⟩
      obtain ⟨s2, hs2⟩ : ∃ s2, s2 = s'.put (nameB who) (lockB now.toNat alone) := ⟨_, rfl⟩
      obtain ⟨L, hL⟩ : ∃ L, L = lockB now.toNat alone := ⟨_, rfl⟩
      obtain ⟨W2, hW2⟩ : ∃ x : World, x = w2 := ⟨_, rfl⟩
      have hop : s'.ops < 4611686018427387904 := by
        exact HOPS.out
      have HPU := Lib.hid (fun (W : World) (q : Value) (k : Keep (fun _ => False) w2 W) (hq : BytesAt W q L) => (hI'.st.keep0 k).put (by rw [hI'.left]; decide) hop ⟨(nameB who).toArray⟩ hnm q L hq (by rw [hL, lockB_length]; omega))
      unfold PutSt at HPU
      dsimp only at HPU
      rw [hL, ← hC, ← hs2, ← hL] at HPU
      have HEN := Lib.hid (fun (W : World) => lkenc_any now.toNat (by have := HNO.out; omega) alone W)
      rw [← hL, show ((now.toNat : Nat) : Int) = now from by have := HNO.out; omega] at HEN
      have HNM := Lib.hid (fun (W : World) => lkname_any who HWH.out W)
      rw [← hC, ← hs2] at hT2
      have HT2 := Lib.hid hT2
      have HBX := Lib.hid (show TkBox b sb who alone now stale W2 from by rw [hW2]; exact hI'.box)
      rw [← hW2] at HPU HK2
      have HFIN := Lib.hid (show ∀ e (w' : World) S', St w' sb (.pointer none) S' s2 → Turn S S' W2 w' → ((e = .returned (.tuple #[]) ∧ C = 0) ∨ e = .panicked (errChain C)) → TakeC sb S (takeC who alone now stale s) W e w' from fun e w' S' h t he => by
        rw [HT2.out]
        exact ⟨he, S', h, HK2.out.trans' t.keep (fun _ _ e => e) (fun _ _ e => e), fun x hx => (t.grow x hx).imp id (fun e => Nat.le_trans HK2.out.size e)⟩)
      have HC5 := Lib.hid (show W2.cell? ⟨hb0, 0, none⟩ = some (.bool false) from by rw [hW2]; exact c5)
      subst hW2
      clear hI' c5 hT2 hnm hC hs2 hL hop HT HEA HKE HW1 c0
      have c5 := HC5.out
      by_cases h0 : C = 0
      · subst h0
        go_wp2_with fail
        refine region_inv' (fun a0 listed a W' => ∃ (b0 b1 b2 b3 b4 b5 b6 b7 b8 : Bool) (q12 q13 q14 q15 q16 q17 q18 q19 q20 : Value), listed = #[b0, b1, b2, b3, b4, b5, b6, b7, b8] ∧ a = { a0 with tmps := (((((((((a0.tmps.setIfInBounds 12 q12).setIfInBounds 13 q13).setIfInBounds 14 q14).setIfInBounds 15 q15).setIfInBounds 16 q16).setIfInBounds 17 q17).setIfInBounds 18 q18).setIfInBounds 19 q19).setIfInBounds 20 q20) } ∧ (b0 = true → q12 = (.pointer (some ⟨sb, 0, none⟩))) ∧ (b1 = true → q13 = (.int .u64 (who : Nat))) ∧ (b2 = true → q14 = (.string ⟨(nameB who).toArray⟩)) ∧ (b3 = true → q15 = (.int .i64 now)) ∧ (b4 = true → q16 = (.bool alone)) ∧ (b5 = true → q17 = (.agg #[.int .i64 now, .bool alone])) ∧ TJ W2 b sb S who alone now stale L 0 s2 b6 b7 false q18 q19 W') (by kernel_rfl) ?h0 ?hs ?hd
        case h0 =>
          exact ⟨false, false, false, false, false, false, false, false, false, undef, undef, undef, undef, undef, undef, undef, undef, undef, rfl, (by first | (simp; done) | rfl), (fun e => by cases e), (fun e => by cases e), (fun e => by cases e), (fun e => by cases e), (fun e => by cases e), (fun e => by cases e), TJ.start HBX.out⟩
        case hs =>
          rintro _ _ W5 ⟨b0, b1, b2, b3, b4, b5, b6, b7, b8, q12, q13, q14, q15, q16, q17, q18, q19, q20, rfl, rfl, m0, m1, m2, m3, m4, m5, j⟩ i hi
          obtain ⟨hun, o, ho, hall⟩ := mem_ready.1 hi
          clear hi
          have hlt : i < 9 := (Array.getElem?_eq_some_iff.1 ho).1
          simp only [List.setIfInBounds_toArray, List.set_cons_zero, List.set_cons_succ]
          match i, hlt with
          | 0, _ =>
            simp at ho hun
            subst ho; subst hun
            obtain ⟨y0, y1, y2, y3, y4⟩ := TkBox.cells j.box
            have M0 := Lib.hid m0; have M1 := Lib.hid m1; have M2 := Lib.hid m2; have M3 := Lib.hid m3; have M4 := Lib.hid m4; have M5 := Lib.hid m5; clear m0 m1 m2 m3 m4 m5
            have HJ := Lib.hid j; clear j
            refine opStep_step rfl (fun K hK => ?_)
            have HK := Lib.hid hK; clear hK
            go_simp
            exact HK.out _ _ ⟨true, _, _, _, _, _, _, _, _, _, _, _, _, _, _, _, _, _, rfl, rfl, fun _ => rfl, M1.out, M2.out, M3.out, M4.out, M5.out, HJ.out⟩
          | 1, _ =>
            simp at ho hun
            subst ho; subst hun
            obtain ⟨y0, y1, y2, y3, y4⟩ := TkBox.cells j.box
            have M0 := Lib.hid m0; have M1 := Lib.hid m1; have M2 := Lib.hid m2; have M3 := Lib.hid m3; have M4 := Lib.hid m4; have M5 := Lib.hid m5; clear m0 m1 m2 m3 m4 m5
            have HJ := Lib.hid j; clear j
            refine opStep_step rfl (fun K hK => ?_)
            have HK := Lib.hid hK; clear hK
            go_simp
            exact HK.out _ _ ⟨_, true, _, _, _, _, _, _, _, _, _, _, _, _, _, _, _, _, rfl, rfl, M0.out, fun _ => rfl, M2.out, M3.out, M4.out, M5.out, HJ.out⟩
          | 2, _ =>
            simp at ho hun
            subst ho; subst hun
            have e1 := hall ⟨1, .data⟩ (by simp) rfl
            simp at e1
            subst e1
            have n1 := m1 rfl
            subst n1
            have M0 := Lib.hid m0; have M1 := Lib.hid m1; have M2 := Lib.hid m2; have M3 := Lib.hid m3; have M4 := Lib.hid m4; have M5 := Lib.hid m5; clear m0 m1 m2 m3 m4 m5
            have HJ := Lib.hid j; clear j
            refine opStep_step rfl (fun K hK => ?_)
            have HK := Lib.hid hK; clear hK
            go_simp
            refine (HNM.out _).mono ?_
            rintro e W6 ⟨rfl, k6⟩
            exact HK.out _ _ ⟨_, _, true, _, _, _, _, _, _, _, _, _, _, _, _, _, _, _, rfl, rfl, M0.out, M1.out, fun _ => rfl, M3.out, M4.out, M5.out, HJ.out.still k6⟩
          | 3, _ =>
            simp at ho hun
            subst ho; subst hun
            obtain ⟨y0, y1, y2, y3, y4⟩ := TkBox.cells j.box
            have M0 := Lib.hid m0; have M1 := Lib.hid m1; have M2 := Lib.hid m2; have M3 := Lib.hid m3; have M4 := Lib.hid m4; have M5 := Lib.hid m5; clear m0 m1 m2 m3 m4 m5
            have HJ := Lib.hid j; clear j
            refine opStep_step rfl (fun K hK => ?_)
            have HK := Lib.hid hK; clear hK
            go_simp
            exact HK.out _ _ ⟨_, _, _, true, _, _, _, _, _, _, _, _, _, _, _, _, _, _, rfl, rfl, M0.out, M1.out, M2.out, fun _ => rfl, M4.out, M5.out, HJ.out⟩
          | 4, _ =>
            simp at ho hun
            subst ho; subst hun
            obtain ⟨y0, y1, y2, y3, y4⟩ := TkBox.cells j.box
            have M0 := Lib.hid m0; have M1 := Lib.hid m1; have M2 := Lib.hid m2; have M3 := Lib.hid m3; have M4 := Lib.hid m4; have M5 := Lib.hid m5; clear m0 m1 m2 m3 m4 m5
            have HJ := Lib.hid j; clear j
            refine opStep_step rfl (fun K hK => ?_)
            have HK := Lib.hid hK; clear hK
            go_simp
            exact HK.out _ _ ⟨_, _, _, _, true, _, _, _, _, _, _, _, _, _, _, _, _, _, rfl, rfl, M0.out, M1.out, M2.out, M3.out, fun _ => rfl, M5.out, HJ.out⟩
          | 5, _ =>
            simp at ho hun
            subst ho; subst hun
            have e3 := hall ⟨3, .data⟩ (by simp) rfl
            simp at e3
            subst e3
            have n3 := m3 rfl
            subst n3
            have e4 := hall ⟨4, .data⟩ (by simp) rfl
            simp at e4
            subst e4
            have n4 := m4 rfl
            subst n4
            have M0 := Lib.hid m0; have M1 := Lib.hid m1; have M2 := Lib.hid m2; have M3 := Lib.hid m3; have M4 := Lib.hid m4; have M5 := Lib.hid m5; clear m0 m1 m2 m3 m4 m5
            have HJ := Lib.hid j; clear j
            refine opStep_step rfl (fun K hK => ?_)
            have HK := Lib.hid hK; clear hK
            go_simp
            exact HK.out _ _ ⟨_, _, _, _, _, true, _, _, _, _, _, _, _, _, _, _, _, _, rfl, rfl, M0.out, M1.out, M2.out, M3.out, M4.out, fun _ => rfl, HJ.out⟩
          | 6, _ =>
            simp at ho hun
            subst ho; subst hun
            have e5 := hall ⟨5, .data⟩ (by simp) rfl
            simp at e5
            subst e5
            have n5 := m5 rfl
            subst n5
            have M0 := Lib.hid m0; have M1 := Lib.hid m1; have M2 := Lib.hid m2; have M3 := Lib.hid m3; have M4 := Lib.hid m4; have M5 := Lib.hid m5; clear m0 m1 m2 m3 m4 m5
            have HJ := Lib.hid j; clear j
            refine opStep_step rfl (fun K hK => ?_)
            have HK := Lib.hid hK; clear hK
            go_simp
            refine (HEN.out _).mono ?_
            rintro e W6 ⟨v6, rfl, hb6, k6⟩
            exact HK.out _ _ ⟨_, _, _, _, _, _, true, _, _, _, _, _, _, _, _, _, _, _, rfl, rfl, M0.out, M1.out, M2.out, M3.out, M4.out, M5.out, HJ.out.made hb6 k6⟩
          | 7, _ =>
            simp at ho hun
            subst ho; subst hun
            have e0 := hall ⟨0, .data⟩ (by simp) rfl
            simp at e0
            subst e0
            have n0 := m0 rfl
            subst n0
            have e2 := hall ⟨2, .data⟩ (by simp) rfl
            simp at e2
            subst e2
            have n2 := m2 rfl
            subst n2
            have e6 := hall ⟨6, .data⟩ (by simp) rfl
            simp at e6
            subst e6
            have M0 := Lib.hid m0; have M1 := Lib.hid m1; have M2 := Lib.hid m2; have M3 := Lib.hid m3; have M4 := Lib.hid m4; have M5 := Lib.hid m5; clear m0 m1 m2 m3 m4 m5
            have HJ := Lib.hid j; clear j
            refine opStep_step rfl (fun K hK => ?_)
            have HK := Lib.hid hK; clear hK
            go_simp
            refine (HPU.out _ _ (HJ.out.pre rfl) (HJ.out.m6 rfl rfl)).mono ?_
            rintro e W6 ⟨S6, rfl, h6, t6⟩
            exact HK.out _ _ ⟨_, _, _, _, _, _, _, true, _, _, _, _, _, _, _, _, _, _, rfl, rfl, M0.out, M1.out, M2.out, M3.out, M4.out, M5.out, HJ.out.put HNB.out h6 t6⟩
          | 8, _ =>
            simp at ho hun
            subst ho; subst hun
            have e7 := hall ⟨7, .data⟩ (by simp) rfl
            simp at e7
            subst e7
            obtain ⟨rfl, hm7⟩ := j.m7 rfl
            have M0 := Lib.hid m0; have M1 := Lib.hid m1; have M2 := Lib.hid m2; have M3 := Lib.hid m3; have M4 := Lib.hid m4; have M5 := Lib.hid m5; clear m0 m1 m2 m3 m4 m5
            have HJ := Lib.hid j; clear j
            refine opStep_step rfl (fun K hK => ?_)
            have HK := Lib.hid hK; clear hK
            go_simp
            refine (must_ok _).mono ?_
            rintro e W6 ⟨rfl, rfl⟩
            exact HK.out _ _ ⟨_, _, _, _, _, _, _, _, true, _, _, _, _, _, _, _, _, _, rfl, rfl, M0.out, M1.out, M2.out, M3.out, M4.out, M5.out, HJ.out⟩
        case hd =>
          rintro _ _ W5 ⟨b0, b1, b2, b3, b4, b5, b6, b7, b8, q12, q13, q14, q15, q16, q17, q18, q19, q20, rfl, rfl, m0, m1, m2, m3, m4, m5, j⟩ hr
          have hn : ∀ i, i ∈ Region.ready .any _ _ → False := fun i hi => by rw [hr] at hi; cases hi
          have t0 : b0 = true := by cases b0; exact (hn 0 (mem_ready.2 ⟨rfl, _, rfl, by simp [Region.binds]⟩)).elim; rfl
          subst t0
          have t1 : b1 = true := by cases b1; exact (hn 1 (mem_ready.2 ⟨rfl, _, rfl, by simp [Region.binds]⟩)).elim; rfl
          subst t1
          have t2 : b2 = true := by cases b2; exact (hn 2 (mem_ready.2 ⟨rfl, _, rfl, by simp [Region.binds]⟩)).elim; rfl
          subst t2
          have t3 : b3 = true := by cases b3; exact (hn 3 (mem_ready.2 ⟨rfl, _, rfl, by simp [Region.binds]⟩)).elim; rfl
          subst t3
          have t4 : b4 = true := by cases b4; exact (hn 4 (mem_ready.2 ⟨rfl, _, rfl, by simp [Region.binds]⟩)).elim; rfl
          subst t4
          have t5 : b5 = true := by cases b5; exact (hn 5 (mem_ready.2 ⟨rfl, _, rfl, by simp [Region.binds]⟩)).elim; rfl
          subst t5
          have t6 : b6 = true := by cases b6; exact (hn 6 (mem_ready.2 ⟨rfl, _, rfl, by simp [Region.binds]⟩)).elim; rfl
          subst t6
          have t7 : b7 = true := by cases b7; exact (hn 7 (mem_ready.2 ⟨rfl, _, rfl, by simp [Region.binds]⟩)).elim; rfl
          subst t7
          have t8 : b8 = true := by cases b8; exact (hn 8 (mem_ready.2 ⟨rfl, _, rfl, by simp [Region.binds]⟩)).elim; rfl
          subst t8
          have n0 := m0 rfl
          subst n0
          have n1 := m1 rfl
          subst n1
          have n2 := m2 rfl
          subst n2
          have n3 := m3 rfl
          subst n3
          have n4 := m4 rfl
          subst n4
          have n5 := m5 rfl
          subst n5
          clear hn hr m0 m1 m2 m3 m4 m5
          simp only [List.setIfInBounds_toArray, List.set_cons_zero, List.set_cons_succ]
          obtain ⟨-, S6, h6, t6⟩ := j.m7 rfl
          have HF6 := Lib.hid (HFIN.out (.returned (.tuple #[])) _ S6 h6 t6 (by first | exact .inl ⟨rfl, rfl⟩ | exact .inl ⟨rfl, trivial⟩))
          clear h6 t6 j
          go_wp2
          go_end0
          exact HF6.out
      · have HC0 := Lib.hid h0
        clear h0
        go_wp2_with fail
        refine region_inv' (fun a0 listed a W' => ∃ (b0 b1 b2 b3 b4 b5 b6 b7 b8 : Bool) (q12 q13 q14 q15 q16 q17 q18 q19 q20 : Value), listed = #[b0, b1, b2, b3, b4, b5, b6, b7, b8] ∧ a = { a0 with tmps := (((((((((a0.tmps.setIfInBounds 12 q12).setIfInBounds 13 q13).setIfInBounds 14 q14).setIfInBounds 15 q15).setIfInBounds 16 q16).setIfInBounds 17 q17).setIfInBounds 18 q18).setIfInBounds 19 q19).setIfInBounds 20 q20) } ∧ (b0 = true → q12 = (.pointer (some ⟨sb, 0, none⟩))) ∧ (b1 = true → q13 = (.int .u64 (who : Nat))) ∧ (b2 = true → q14 = (.string ⟨(nameB who).toArray⟩)) ∧ (b3 = true → q15 = (.int .i64 now)) ∧ (b4 = true → q16 = (.bool alone)) ∧ (b5 = true → q17 = (.agg #[.int .i64 now, .bool alone])) ∧ TJ W2 b sb S who alone now stale L C s2 b6 b7 b8 q18 q19 W') (by kernel_rfl) ?h0 ?hs ?hd
        case h0 =>
          exact ⟨false, false, false, false, false, false, false, false, false, undef, undef, undef, undef, undef, undef, undef, undef, undef, rfl, (by first | (simp; done) | rfl), (fun e => by cases e), (fun e => by cases e), (fun e => by cases e), (fun e => by cases e), (fun e => by cases e), (fun e => by cases e), TJ.start HBX.out⟩
        case hs =>
          rintro _ _ W5 ⟨b0, b1, b2, b3, b4, b5, b6, b7, b8, q12, q13, q14, q15, q16, q17, q18, q19, q20, rfl, rfl, m0, m1, m2, m3, m4, m5, j⟩ i hi
          obtain ⟨hun, o, ho, hall⟩ := mem_ready.1 hi
          clear hi
          have hlt : i < 9 := (Array.getElem?_eq_some_iff.1 ho).1
          simp only [List.setIfInBounds_toArray, List.set_cons_zero, List.set_cons_succ]
          match i, hlt with
          | 0, _ =>
            simp at ho hun
            subst ho; subst hun
            obtain ⟨y0, y1, y2, y3, y4⟩ := TkBox.cells j.box
            have M0 := Lib.hid m0; have M1 := Lib.hid m1; have M2 := Lib.hid m2; have M3 := Lib.hid m3; have M4 := Lib.hid m4; have M5 := Lib.hid m5; clear m0 m1 m2 m3 m4 m5
            have HJ := Lib.hid j; clear j
            refine opStep_step rfl (fun K hK => ?_)
            have HK := Lib.hid hK; clear hK
            go_simp
            exact HK.out _ _ ⟨true, _, _, _, _, _, _, _, _, _, _, _, _, _, _, _, _, _, rfl, rfl, fun _ => rfl, M1.out, M2.out, M3.out, M4.out, M5.out, HJ.out⟩
          | 1, _ =>
            simp at ho hun
            subst ho; subst hun
            obtain ⟨y0, y1, y2, y3, y4⟩ := TkBox.cells j.box
            have M0 := Lib.hid m0; have M1 := Lib.hid m1; have M2 := Lib.hid m2; have M3 := Lib.hid m3; have M4 := Lib.hid m4; have M5 := Lib.hid m5; clear m0 m1 m2 m3 m4 m5
            have HJ := Lib.hid j; clear j
            refine opStep_step rfl (fun K hK => ?_)
            have HK := Lib.hid hK; clear hK
            go_simp
            exact HK.out _ _ ⟨_, true, _, _, _, _, _, _, _, _, _, _, _, _, _, _, _, _, rfl, rfl, M0.out, fun _ => rfl, M2.out, M3.out, M4.out, M5.out, HJ.out⟩
          | 2, _ =>
            simp at ho hun
            subst ho; subst hun
            have e1 := hall ⟨1, .data⟩ (by simp) rfl
            simp at e1
            subst e1
            have n1 := m1 rfl
            subst n1
            have M0 := Lib.hid m0; have M1 := Lib.hid m1; have M2 := Lib.hid m2; have M3 := Lib.hid m3; have M4 := Lib.hid m4; have M5 := Lib.hid m5; clear m0 m1 m2 m3 m4 m5
            have HJ := Lib.hid j; clear j
            refine opStep_step rfl (fun K hK => ?_)
            have HK := Lib.hid hK; clear hK
            go_simp
            refine (HNM.out _).mono ?_
            rintro e W6 ⟨rfl, k6⟩
            exact HK.out _ _ ⟨_, _, true, _, _, _, _, _, _, _, _, _, _, _, _, _, _, _, rfl, rfl, M0.out, M1.out, fun _ => rfl, M3.out, M4.out, M5.out, HJ.out.still k6⟩
          | 3, _ =>
            simp at ho hun
            subst ho; subst hun
            obtain ⟨y0, y1, y2, y3, y4⟩ := TkBox.cells j.box
            have M0 := Lib.hid m0; have M1 := Lib.hid m1; have M2 := Lib.hid m2; have M3 := Lib.hid m3; have M4 := Lib.hid m4; have M5 := Lib.hid m5; clear m0 m1 m2 m3 m4 m5
            have HJ := Lib.hid j; clear j
            refine opStep_step rfl (fun K hK => ?_)
            have HK := Lib.hid hK; clear hK
            go_simp
            exact HK.out _ _ ⟨_, _, _, true, _, _, _, _, _, _, _, _, _, _, _, _, _, _, rfl, rfl, M0.out, M1.out, M2.out, fun _ => rfl, M4.out, M5.out, HJ.out⟩
          | 4, _ =>
            simp at ho hun
            subst ho; subst hun
            obtain ⟨y0, y1, y2, y3, y4⟩ := TkBox.cells j.box
            have M0 := Lib.hid m0; have M1 := Lib.hid m1; have M2 := Lib.hid m2; have M3 := Lib.hid m3; have M4 := Lib.hid m4; have M5 := Lib.hid m5; clear m0 m1 m2 m3 m4 m5
            have HJ := Lib.hid j; clear j
            refine opStep_step rfl (fun K hK => ?_)
            have HK := Lib.hid hK; clear hK
            go_simp
            exact HK.out _ _ ⟨_, _, _, _, true, _, _, _, _, _, _, _, _, _, _, _, _, _, rfl, rfl, M0.out, M1.out, M2.out, M3.out, fun _ => rfl, M5.out, HJ.out⟩
          | 5, _ =>
            simp at ho hun
            subst ho; subst hun
            have e3 := hall ⟨3, .data⟩ (by simp) rfl
            simp at e3
            subst e3
            have n3 := m3 rfl
            subst n3
            have e4 := hall ⟨4, .data⟩ (by simp) rfl
            simp at e4
            subst e4
            have n4 := m4 rfl
            subst n4
            have M0 := Lib.hid m0; have M1 := Lib.hid m1; have M2 := Lib.hid m2; have M3 := Lib.hid m3; have M4 := Lib.hid m4; have M5 := Lib.hid m5; clear m0 m1 m2 m3 m4 m5
            have HJ := Lib.hid j; clear j
            refine opStep_step rfl (fun K hK => ?_)
            have HK := Lib.hid hK; clear hK
            go_simp
            exact HK.out _ _ ⟨_, _, _, _, _, true, _, _, _, _, _, _, _, _, _, _, _, _, rfl, rfl, M0.out, M1.out, M2.out, M3.out, M4.out, fun _ => rfl, HJ.out⟩
          | 6, _ =>
            simp at ho hun
            subst ho; subst hun
            have e5 := hall ⟨5, .data⟩ (by simp) rfl
            simp at e5
            subst e5
            have n5 := m5 rfl
            subst n5
            have M0 := Lib.hid m0; have M1 := Lib.hid m1; have M2 := Lib.hid m2; have M3 := Lib.hid m3; have M4 := Lib.hid m4; have M5 := Lib.hid m5; clear m0 m1 m2 m3 m4 m5
            have HJ := Lib.hid j; clear j
            refine opStep_step rfl (fun K hK => ?_)
            have HK := Lib.hid hK; clear hK
            go_simp
            refine (HEN.out _).mono ?_
            rintro e W6 ⟨v6, rfl, hb6, k6⟩
            exact HK.out _ _ ⟨_, _, _, _, _, _, true, _, _, _, _, _, _, _, _, _, _, _, rfl, rfl, M0.out, M1.out, M2.out, M3.out, M4.out, M5.out, HJ.out.made hb6 k6⟩
          | 7, _ =>
            simp at ho hun
            subst ho; subst hun
            have e0 := hall ⟨0, .data⟩ (by simp) rfl
            simp at e0
            subst e0
            have n0 := m0 rfl
            subst n0
            have e2 := hall ⟨2, .data⟩ (by simp) rfl
            simp at e2
            subst e2
            have n2 := m2 rfl
            subst n2
            have e6 := hall ⟨6, .data⟩ (by simp) rfl
            simp at e6
            subst e6
            have M0 := Lib.hid m0; have M1 := Lib.hid m1; have M2 := Lib.hid m2; have M3 := Lib.hid m3; have M4 := Lib.hid m4; have M5 := Lib.hid m5; clear m0 m1 m2 m3 m4 m5
            have HJ := Lib.hid j; clear j
            refine opStep_step rfl (fun K hK => ?_)
            have HK := Lib.hid hK; clear hK
            go_simp
            refine (HPU.out _ _ (HJ.out.pre rfl) (HJ.out.m6 rfl rfl)).mono ?_
            rintro e W6 ⟨S6, rfl, h6, t6⟩
            exact HK.out _ _ ⟨_, _, _, _, _, _, _, true, _, _, _, _, _, _, _, _, _, _, rfl, rfl, M0.out, M1.out, M2.out, M3.out, M4.out, M5.out, HJ.out.put HNB.out h6 t6⟩
          | 8, _ =>
            simp at ho hun
            subst ho; subst hun
            have e7 := hall ⟨7, .data⟩ (by simp) rfl
            simp at e7
            subst e7
            obtain ⟨rfl, S6, h6, t6⟩ := j.m7 rfl
            refine opStep_step rfl (fun K hK => ?_)
            clear hK
            go_simp
            refine (must_err C HC0.out _).mono ?_
            rintro e W6 ⟨rfl, rfl⟩
            exact ⟨rfl, HFIN.out _ _ S6 h6 t6 (.inr rfl)⟩
        case hd =>
          rintro _ _ W5 ⟨b0, b1, b2, b3, b4, b5, b6, b7, b8, q12, q13, q14, q15, q16, q17, q18, q19, q20, rfl, rfl, m0, m1, m2, m3, m4, m5, j⟩ hr
          have hn : ∀ i, i ∈ Region.ready .any _ _ → False := fun i hi => by rw [hr] at hi; cases hi
          have t0 : b0 = true := by cases b0; exact (hn 0 (mem_ready.2 ⟨rfl, _, rfl, by simp [Region.binds]⟩)).elim; rfl
          subst t0
          have t1 : b1 = true := by cases b1; exact (hn 1 (mem_ready.2 ⟨rfl, _, rfl, by simp [Region.binds]⟩)).elim; rfl
          subst t1
          have t2 : b2 = true := by cases b2; exact (hn 2 (mem_ready.2 ⟨rfl, _, rfl, by simp [Region.binds]⟩)).elim; rfl
          subst t2
          have t3 : b3 = true := by cases b3; exact (hn 3 (mem_ready.2 ⟨rfl, _, rfl, by simp [Region.binds]⟩)).elim; rfl
          subst t3
          have t4 : b4 = true := by cases b4; exact (hn 4 (mem_ready.2 ⟨rfl, _, rfl, by simp [Region.binds]⟩)).elim; rfl
          subst t4
          have t5 : b5 = true := by cases b5; exact (hn 5 (mem_ready.2 ⟨rfl, _, rfl, by simp [Region.binds]⟩)).elim; rfl
          subst t5
          have t6 : b6 = true := by cases b6; exact (hn 6 (mem_ready.2 ⟨rfl, _, rfl, by simp [Region.binds]⟩)).elim; rfl
          subst t6
          have t7 : b7 = true := by cases b7; exact (hn 7 (mem_ready.2 ⟨rfl, _, rfl, by simp [Region.binds]⟩)).elim; rfl
          subst t7
          have t8 : b8 = true := by cases b8; exact (hn 8 (mem_ready.2 ⟨rfl, _, rfl, by simp [Region.binds]⟩)).elim; rfl
          subst t8
          have n0 := m0 rfl
          subst n0
          have n1 := m1 rfl
          subst n1
          have n2 := m2 rfl
          subst n2
          have n3 := m3 rfl
          subst n3
          have n4 := m4 rfl
          subst n4
          have n5 := m5 rfl
          subst n5
          clear hn hr m0 m1 m2 m3 m4 m5
          simp only [List.setIfInBounds_toArray, List.set_cons_zero, List.set_cons_succ]
          exact (j.n8 rfl).elim
    · have HT2 := Lib.hid (show takeC who alone now stale s = (s', 34) from HT.out)
      have HI' := Lib.hid hI'
      clear hI'
      go_wp2_with fail
      refine (must_err 34 (by decide) _).mono ?_
      rintro e w3 ⟨rfl, rfl⟩
      refine ⟨rfl, .inr ?_, ?_⟩
      · rw [HT2.out]
      · rw [HT2.out]; exact ⟨S, HI'.out.st, HK2.out, fun _ => .inl⟩
end Go.Proofs.Ytlajejbglpggeaa
