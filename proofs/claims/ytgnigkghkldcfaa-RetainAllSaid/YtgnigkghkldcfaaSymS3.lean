/-
  slices.symMergeCmpFunc at snapshots: the whole of it.
-/
import Derived.Test.YtgnigkghkldcfaaSymS2
namespace Go.Proofs.Ytgnigkghkldcfaa
open Go.RowKit Go.Proofs Go.Lib Go.Sort Go.Shelf

/-- what a merge of at most so many comes to -/
def SymIHS (K : Nat) (enc : Nat → List Value) (cf : Nat → Nat → Int) (le : Nat → Nat → Prop) (g : Nat) (cb : Array Value) (d0 : Array Nat) (w0 : World) (blk off cap : Nat) (N : Nat) : Prop :=
  ∀ (a m b : Nat) (d : Array Nat) (w : World), b - a < N → a < m → m < b → b ≤ d.size → d0.size = d.size → SWK enc K w0 blk off d w → Runs (ltOf cf) le a m b d →
    Calls Try.prog 146 #[.slice (some ⟨blk, off, none⟩) d.size cap, .int .i64 a, .int .i64 m, .int .i64 b, .func (.func g) #[] cb] w fun e w' => e = .returned (.tuple #[]) ∧ ∃ d', Mrg le a b d d' ∧ SWK enc K w0 blk off d' w'

set_option maxHeartbeats 16000000 in
set_option maxRecDepth 1000000 in
theorem sym_restS {K : Nat} (zE : ∀ w, (Go.sizeOf 108).run Try.prog w = .ok K w) {enc : Nat → List Value} {blk off cap a m b : Nat} {d0 d : Array Nat} {w0 w : World} {cf : Nat → Nat → Int} {le : Nat → Nat → Prop} (tr : ∀ x y z, le x y → le y z → le x z) {g : Nat} {cb : Array Value}
    (eg : ∀ args w, (callFunc g args).run Try.prog w = .ok (.enter g args) w) (hcmp : CmpLays Try.prog g cb enc K cf blk off d0.size w0) (R : RowK enc K w0 blk off d0) (hs : d0.size = d.size) (S : SWK enc K w0 blk off d w)
    (ham : a + 1 < m) (hmb : m + 1 < b) (hb : b ≤ d.size) (hsz : d.size < 4611686018427387904) (hr : Runs (ltOf cf) le a m b d) (ih : SymIHS K enc cf le g cb d0 w0 blk off cap (b - a)) :
    Calls Try.prog 146 #[.slice (some ⟨blk, off, none⟩) d.size cap, .int .i64 a, .int .i64 m, .int .i64 b, .func (.func g) #[] cb] w fun e w' => e = .returned (.tuple #[]) ∧ ∃ d', Mrg le a b d d' ∧ SWK enc K w0 blk off d' w' := by
  have S0 : Aside (SWK enc K w0 blk off d w) := S
  have HC : Aside _ := hcmp
  have aE := isAggS
  have HIH : Aside _ := ih
  have mixed : Try.prog.follows Departure.mixedOrders = true := by kernel_rfl
  have HR := Lib.hid hr
  have HT : Aside _ := tr
  have hm1 : ((m : Int) - (a : Int) == 1) = false := by simp; omega
  have hm0 : ((b : Int) - (m : Int) == 1) = false := by simp; omega
  obtain ⟨mid, hmd⟩ : ∃ x, x = (a + b) / 2 := ⟨_, rfl⟩
  have hmz : ((a : Int) + (b : Int)) / 2 = (mid : Int) := by omega
  obtain ⟨s0, hs0⟩ : ∃ s, s = if m > mid then mid + m - b else a := ⟨_, rfl⟩
  obtain ⟨r0, hr0⟩ : ∃ r, r = if m > mid then mid else m := ⟨_, rfl⟩
  obtain ⟨q1, q2, q3, q4, q5, q6, q7, q8⟩ := Part.start (by omega : a < m) (by omega : m < b) hmd hs0 hr0
  have Q7 := Lib.hid q7; have Q8 := Lib.hid q8
  have hcase : (mid < m ∧ s0 = mid + m - b ∧ r0 = mid) ∨ (¬ mid < m ∧ s0 = a ∧ r0 = m) := by
    by_cases h : mid < m
    · rw [if_pos h] at hs0 hr0; exact .inl ⟨h, hs0, hr0⟩
    · rw [if_neg h] at hs0 hr0; exact .inr ⟨h, hs0, hr0⟩
  have hamid : a ≤ mid := by omega
  have HAM := Lib.hid hmd
  clear S hcmp hr tr ih hs0 hr0 q7 q8 hmd
  rcases hcase with ⟨hgt, hsz0, hrz0⟩ | ⟨hgt, hsz0, hrz0⟩
  case' inl =>
    have hgz : (mid : Int) < (m : Int) := by omega
    have hs0z : (mid : Int) + (m : Int) - (b : Int) = (s0 : Int) := by omega
    have HRZ := Lib.hid (show (r0 : Int) = (mid : Int) by omega)
    have HSZ := Lib.hid (show (s0 : Int) = (s0 : Int) from rfl)
    clear hsz0 hrz0
    go_enter Try.func146, Try.ntmps146
    go_wp2
    clear hs0z
  case' inr =>
    have hgz : ¬ (mid : Int) < (m : Int) := by omega
    have HRZ := Lib.hid (show (r0 : Int) = (m : Int) by omega)
    have HSZ := Lib.hid (show (s0 : Int) = (a : Int) by omega)
    clear hsz0 hrz0
    go_enter Try.func146, Try.ntmps146
    go_wp2
  all_goals
    go_loopg [20, 21] (r0 - s0) (fun kx s20 s21 wr => ∃ (s r : Nat), s20 = .int .i64 s ∧ s21 = .int .i64 r ∧ s0 ≤ s ∧ s ≤ r ∧ r ≤ r0 ∧ r - s ≤ kx ∧ Hid (s = s0 ∨ ltOf cf d[mid + m - s]! d[s - 1]! = false) ∧ Hid (r = r0 ∨ ltOf cf d[mid + m - 1 - r]! d[r]! = true) ∧ Aside (SWK enc K w0 blk off d wr))
    case atStart => exact ⟨s0, r0, by first | rw [HSZ.out] | rfl, by first | rw [HRZ.out] | rfl, Nat.le_refl _, q2, Nat.le_refl _, Nat.le_refl _, .inl rfl, .inl rfl, S0⟩
    case round =>
      clear S0
      obtain ⟨s, r, rfl, rfl, hsi, hsr, hrr, hkx, HI, HJ, S1⟩ := hrel
      by_cases hlt : s < r
      · have hltz : (s : Int) < (r : Int) := by omega
        obtain ⟨hN, hh⟩ : ∃ h, h = (s + r) / 2 := ⟨_, rfl⟩
        obtain ⟨pN, hp⟩ : ∃ p, p = mid + m - 1 - hN := ⟨_, rfl⟩
        have hzN : (((s : Int) + (r : Int)) / 2) = (hN : Int) := by omega
        have hNi : s ≤ hN ∧ hN < r := by omega
        obtain ⟨hN1, hN2⟩ := hNi
        have hpz : (mid : Int) + (m : Int) - 1 - (hN : Int) = (pN : Int) := by omega
        have hpd : pN < d.size := by omega
        have hnd : hN < d.size := by omega
        have ba1 : (hN : Int) < (d.size : Int) := by omega
        have bc1 : (pN : Int) < (d.size : Int) := by omega
        have pa1 : (0 : Int) ≤ (hN : Int) := by omega
        have pc1 : (0 : Int) ≤ (pN : Int) := by omega
        obtain ⟨x1, hx1⟩ : ∃ x, x = enc d[pN]! := ⟨_, rfl⟩
        obtain ⟨y1, hy1⟩ : ∃ x, x = enc d[hN]! := ⟨_, rfl⟩
        obtain ⟨cv, hcv⟩ : ∃ c, c = cf d[pN]! d[hN]! := ⟨_, rfl⟩
        have l1a : ∀ n os, Sem.run Try.prog (loadCellsFrom ⟨blk, off + pN * K, none⟩ 0 K #[]) (grow (wr.drewN n) os) = .ok x1.toArray (grow (wr.drewN n) os) := fun n os => by rw [hx1]; exact S1.out.ld R hs.symm Try.prog pN hpd n os
        have l1b : ∀ n os, Sem.run Try.prog (loadCellsFrom ⟨blk, off + hN * K, none⟩ 0 K #[]) (grow (wr.drewN n) os) = .ok y1.toArray (grow (wr.drewN n) os) := fun n os => by rw [hy1]; exact S1.out.ld R hs.symm Try.prog hN hnd n os
        have hc1 : ∀ n os, Calls Try.prog g (#[.agg x1.toArray, .agg y1.toArray] ++ cb) (grow (wr.drewN n) os) fun e w' => e = .returned (.int .i64 cv) ∧ ∃ q os', w' = grow ((grow (wr.drewN n) os).drewN q) os' := by rw [hx1, hy1, hcv]; exact S1.out.cmp HC.out hs.symm _ _
        have HX : Hid (cv = cf d[pN]! d[hN]!) := hcv
        have HP := Lib.hid hp
        have rc1 : IntKind.i64.wrap (pN : Int) = (pN : Int) := by rw [IntKind.wrap_i64]; omega
        clear hx1 hy1 hh hp hcv
        by_cases hlv : cv < 0
        · have hd1 : decide (cv < 0) = true := decide_eq_true hlv
          have HLV := Lib.hid hlv
          go_wp2_with fail
          go_quiet_grown (first | (go_at_fn g; refine Calls.grown_of (hc1 _ _)))
          have S2 : Aside (SWK enc K w0 blk off d (grow (wr.drewN nq) osq)) := S1.out.grown nq osq
          clear l1a l1b hc1 S1
          generalize grow (wr.drewN nq) osq = w2 at S2 ⊢
          clear nq osq hpz rc1
          go_wp2
          clear hzN
          go_roundg (hN - s)
          case measure => omega
          case rel => exact ⟨s, hN, rfl, rfl, hsi, hN1, by omega, Nat.le_refl _, HI, .inr (by rw [← HP.out]; show decide (cf _ _ < 0) = true; rw [← HX.out]; exact decide_eq_true HLV.out), S2⟩
        · have hd1 : decide (cv < 0) = false := decide_eq_false hlv
          have HLV := Lib.hid hlv
          go_wp2_with fail
          go_quiet_grown (first | (go_at_fn g; refine Calls.grown_of (hc1 _ _)))
          have S2 : Aside (SWK enc K w0 blk off d (grow (wr.drewN nq) osq)) := S1.out.grown nq osq
          clear l1a l1b hc1 S1
          generalize grow (wr.drewN nq) osq = w2 at S2 ⊢
          clear nq osq hpz rc1
          go_wp2
          clear hzN
          go_roundg (r - (hN + 1))
          case measure => omega
          case rel => exact ⟨hN + 1, r, by go_num, rfl, by omega, by omega, hrr, Nat.le_refl _, .inr (by rw [Nat.add_sub_cancel, show mid + m - (hN + 1) = mid + m - 1 - hN by omega, ← HP.out]; show decide (cf _ _ < 0) = false; rw [← HX.out]; exact decide_eq_false (Int.not_lt.2 HLV.out)), HJ, S2⟩
      · have hsreq : s = r := by omega
        rw [← hsreq] at HJ
        have hltz : ¬ (s : Int) < (r : Int) := by omega
        obtain ⟨e, he⟩ : ∃ e, e = mid + m - s := ⟨_, rfl⟩
        have hez : (mid : Int) + (m : Int) - (s : Int) = (e : Int) := by omega
        have hp : Part (ltOf cf) a m b mid s e d := by
          refine ⟨by omega, by omega, by omega, by omega, by omega, by omega, by omega, ?_, ?_⟩
          · rcases HI.out with h | h
            · rcases Q7.out with h2 | h2
              · exact .inl (h.trans h2)
              · by_cases h3 : s = a
                · exact .inl h3
                · exact .inr (.inl (by omega))
            · exact .inr (.inr (by rw [he]; exact h))
          · rcases HJ.out with h | h
            · rcases Q8.out with h2 | h2
              · exact .inl (h.trans h2)
              · exact .inr (.inl (by rw [he, h]; exact h2))
            · exact .inr (.inr (by rw [show e - 1 = mid + m - 1 - s by omega]; exact h))
        have HPA := Lib.hid hp
        have hes : s ≤ e ∧ m ≤ e ∧ mid ≤ e ∧ e ≤ b ∧ s ≤ m ∧ s ≤ mid ∧ a ≤ s := ⟨by omega, hp.me, hp.mide, hp.eb, hp.sm, hp.smid, hp.ge⟩
        obtain ⟨h1, h2, h3, h4, h5, h6, h7⟩ := hes
        have h8 : s < m → m < e → a ≤ s := fun _ _ => h7
        clear HI HJ he hp hsreq h8 hkx HSZ HRZ
        by_cases w1 : s < m ∧ m < e <;> by_cases w2 : a < s ∧ s < mid <;> by_cases w3 : mid < e ∧ e < b
        · as_aux_lemma =>
            have hrc := rotS_any zE R hs S1.out (by omega : s < m) (by omega : m < e) (by omega) hsz g cb (cap := cap)
            have HRC := Lib.hid hrc
            clear hrc S1
            go_wp2_with fail
            refine HRC.out.mono ?_
            rintro _ w1 ⟨rfl, d1, hrot, S2⟩
            obtain ⟨R1, R2, hpm, hx⟩ := HPA.out.rot HT.out HR.out hb hrot
            have hz1 : d1.size = d.size := hrot.size
            have PM := Lib.hid hpm; have HX := Lib.hid hx; have HR2 := Lib.hid R2; have HZ1 := Lib.hid hz1
            clear hrot hpm hx R2
            have hlc := HIH.out a s mid d1 w1 (by omega) (by omega) (by omega) (by rw [hz1]; omega) (hs.trans hz1.symm) S2 R1
            rw [hz1] at hlc
            have HLC := Lib.hid hlc
            clear hlc S2 R1 hz1
            go_wp2_with fail
            all_goals refine HLC.out.mono ?_
            all_goals rintro _ w2 ⟨rfl, d2, M1, S3⟩
            all_goals have hz2 : d2.size = d.size := M1.perm.1.trans HZ1.out
            all_goals have R3 := HR2.out.of_perm h3 h4 M1.perm (.inl (Nat.le_refl _))
            all_goals have HM1 := Lib.hid M1; have HZ2 := Lib.hid hz2
            all_goals clear M1
            all_goals have htc := HIH.out mid e b d2 w2 (by omega) (by omega) (by omega) (by rw [hz2]; exact hb) (hs.trans hz2.symm) S3 R3
            all_goals rw [hz2] at htc
            all_goals have HTC := Lib.hid htc
            all_goals clear htc S3 R3 hz2
            all_goals go_wp2_with fail
            all_goals refine HTC.out.mono ?_
            all_goals rintro _ w3 ⟨rfl, d3, M2, S4⟩
            all_goals have HF := Lib.hid (HPA.out.merged hb PM.out HX.out HM1.out M2)
            all_goals have S5 := Lib.hid S4
            all_goals clear M2 S4
            all_goals go_wp2
            all_goals go_end0
            all_goals exact ⟨rfl, _, HF.out, S5.out⟩
        · as_aux_lemma =>
            have hrc := rotS_any zE R hs S1.out (by omega : s < m) (by omega : m < e) (by omega) hsz g cb (cap := cap)
            have HRC := Lib.hid hrc
            clear hrc S1
            go_wp2_with fail
            refine HRC.out.mono ?_
            rintro _ w1 ⟨rfl, d1, hrot, S2⟩
            obtain ⟨R1, R2, hpm, hx⟩ := HPA.out.rot HT.out HR.out hb hrot
            have hz1 : d1.size = d.size := hrot.size
            have PM := Lib.hid hpm; have HX := Lib.hid hx; have HR2 := Lib.hid R2; have HZ1 := Lib.hid hz1
            clear hrot hpm hx R2
            have hlc := HIH.out a s mid d1 w1 (by omega) (by omega) (by omega) (by rw [hz1]; omega) (hs.trans hz1.symm) S2 R1
            rw [hz1] at hlc
            have HLC := Lib.hid hlc
            clear hlc S2 R1 hz1
            go_wp2_with fail
            all_goals refine HLC.out.mono ?_
            all_goals rintro _ w2 ⟨rfl, d2, M1, S3⟩
            all_goals have hz2 : d2.size = d.size := M1.perm.1.trans HZ1.out
            all_goals have R3 := HR2.out.of_perm h3 h4 M1.perm (.inl (Nat.le_refl _))
            all_goals have HM1 := Lib.hid M1; have HZ2 := Lib.hid hz2
            all_goals clear M1
            all_goals have HF := Lib.hid (HPA.out.merged hb PM.out HX.out HM1.out (R3.lone (by omega)))
            all_goals have S5 := Lib.hid S3
            all_goals clear S3 R3 hz2
            all_goals go_wp2
            all_goals go_end0
            all_goals exact ⟨rfl, _, HF.out, S5.out⟩
        · as_aux_lemma =>
            have hrc := rotS_any zE R hs S1.out (by omega : s < m) (by omega : m < e) (by omega) hsz g cb (cap := cap)
            have HRC := Lib.hid hrc
            clear hrc S1
            go_wp2_with fail
            refine HRC.out.mono ?_
            rintro _ w1 ⟨rfl, d1, hrot, S2⟩
            obtain ⟨R1, R2, hpm, hx⟩ := HPA.out.rot HT.out HR.out hb hrot
            have hz1 : d1.size = d.size := hrot.size
            have PM := Lib.hid hpm; have HX := Lib.hid hx; have HR2 := Lib.hid R2; have HZ1 := Lib.hid hz1
            clear hrot hpm hx R2
            obtain ⟨d2, hd2⟩ : ∃ d2, d2 = d1 := ⟨_, rfl⟩
            have M1 : Mrg le a mid d1 d2 := by rw [hd2]; exact R1.lone (by omega)
            obtain ⟨w2, hw2⟩ : ∃ w2, w2 = w1 := ⟨_, rfl⟩
            have S3 : SWK enc K w0 blk off d2 w2 := by rw [hd2, hw2]; exact S2
            rw [← hw2]
            clear hw2 hd2 S2 R1 hz1
            all_goals have hz2 : d2.size = d.size := M1.perm.1.trans HZ1.out
            all_goals have R3 := HR2.out.of_perm h3 h4 M1.perm (.inl (Nat.le_refl _))
            all_goals have HM1 := Lib.hid M1; have HZ2 := Lib.hid hz2
            all_goals clear M1
            all_goals have htc := HIH.out mid e b d2 w2 (by omega) (by omega) (by omega) (by rw [hz2]; exact hb) (hs.trans hz2.symm) S3 R3
            all_goals rw [hz2] at htc
            all_goals have HTC := Lib.hid htc
            all_goals clear htc S3 R3 hz2
            all_goals go_wp2_with fail
            all_goals refine HTC.out.mono ?_
            all_goals rintro _ w3 ⟨rfl, d3, M2, S4⟩
            all_goals have HF := Lib.hid (HPA.out.merged hb PM.out HX.out HM1.out M2)
            all_goals have S5 := Lib.hid S4
            all_goals clear M2 S4
            all_goals go_wp2
            all_goals go_end0
            all_goals exact ⟨rfl, _, HF.out, S5.out⟩
        · as_aux_lemma =>
            have hrc := rotS_any zE R hs S1.out (by omega : s < m) (by omega : m < e) (by omega) hsz g cb (cap := cap)
            have HRC := Lib.hid hrc
            clear hrc S1
            go_wp2_with fail
            refine HRC.out.mono ?_
            rintro _ w1 ⟨rfl, d1, hrot, S2⟩
            obtain ⟨R1, R2, hpm, hx⟩ := HPA.out.rot HT.out HR.out hb hrot
            have hz1 : d1.size = d.size := hrot.size
            have PM := Lib.hid hpm; have HX := Lib.hid hx; have HR2 := Lib.hid R2; have HZ1 := Lib.hid hz1
            clear hrot hpm hx R2
            obtain ⟨d2, hd2⟩ : ∃ d2, d2 = d1 := ⟨_, rfl⟩
            have M1 : Mrg le a mid d1 d2 := by rw [hd2]; exact R1.lone (by omega)
            obtain ⟨w2, hw2⟩ : ∃ w2, w2 = w1 := ⟨_, rfl⟩
            have S3 : SWK enc K w0 blk off d2 w2 := by rw [hd2, hw2]; exact S2
            rw [← hw2]
            clear hw2 hd2 S2 R1 hz1
            all_goals have hz2 : d2.size = d.size := M1.perm.1.trans HZ1.out
            all_goals have R3 := HR2.out.of_perm h3 h4 M1.perm (.inl (Nat.le_refl _))
            all_goals have HM1 := Lib.hid M1; have HZ2 := Lib.hid hz2
            all_goals clear M1
            all_goals have HF := Lib.hid (HPA.out.merged hb PM.out HX.out HM1.out (R3.lone (by omega)))
            all_goals have S5 := Lib.hid S3
            all_goals clear S3 R3 hz2
            all_goals go_wp2
            all_goals go_end0
            all_goals exact ⟨rfl, _, HF.out, S5.out⟩
        · as_aux_lemma =>
            obtain ⟨d1, hd1⟩ : ∃ d1, d1 = d := ⟨_, rfl⟩
            have hrot : Rot s m e d d1 := by rw [hd1]; rcases (by omega : s = m ∨ e = m) with q | q; (rw [q]; exact Rot.same_left m e d); (rw [q]; exact Rot.same_right s m d)
            obtain ⟨w1, hw1⟩ : ∃ w1, w1 = wr := ⟨_, rfl⟩
            have S2 : SWK enc K w0 blk off d1 w1 := by rw [hd1, hw1]; exact S1.out
            rw [← hw1]
            clear hw1 hd1 S1
            obtain ⟨R1, R2, hpm, hx⟩ := HPA.out.rot HT.out HR.out hb hrot
            have hz1 : d1.size = d.size := hrot.size
            have PM := Lib.hid hpm; have HX := Lib.hid hx; have HR2 := Lib.hid R2; have HZ1 := Lib.hid hz1
            clear hrot hpm hx R2
            have hlc := HIH.out a s mid d1 w1 (by omega) (by omega) (by omega) (by rw [hz1]; omega) (hs.trans hz1.symm) S2 R1
            rw [hz1] at hlc
            have HLC := Lib.hid hlc
            clear hlc S2 R1 hz1
            go_wp2_with fail
            all_goals refine HLC.out.mono ?_
            all_goals rintro _ w2 ⟨rfl, d2, M1, S3⟩
            all_goals have hz2 : d2.size = d.size := M1.perm.1.trans HZ1.out
            all_goals have R3 := HR2.out.of_perm h3 h4 M1.perm (.inl (Nat.le_refl _))
            all_goals have HM1 := Lib.hid M1; have HZ2 := Lib.hid hz2
            all_goals clear M1
            all_goals have htc := HIH.out mid e b d2 w2 (by omega) (by omega) (by omega) (by rw [hz2]; exact hb) (hs.trans hz2.symm) S3 R3
            all_goals rw [hz2] at htc
            all_goals have HTC := Lib.hid htc
            all_goals clear htc S3 R3 hz2
            all_goals go_wp2_with fail
            all_goals refine HTC.out.mono ?_
            all_goals rintro _ w3 ⟨rfl, d3, M2, S4⟩
            all_goals have HF := Lib.hid (HPA.out.merged hb PM.out HX.out HM1.out M2)
            all_goals have S5 := Lib.hid S4
            all_goals clear M2 S4
            all_goals go_wp2
            all_goals go_end0
            all_goals exact ⟨rfl, _, HF.out, S5.out⟩
        · as_aux_lemma =>
            obtain ⟨d1, hd1⟩ : ∃ d1, d1 = d := ⟨_, rfl⟩
            have hrot : Rot s m e d d1 := by rw [hd1]; rcases (by omega : s = m ∨ e = m) with q | q; (rw [q]; exact Rot.same_left m e d); (rw [q]; exact Rot.same_right s m d)
            obtain ⟨w1, hw1⟩ : ∃ w1, w1 = wr := ⟨_, rfl⟩
            have S2 : SWK enc K w0 blk off d1 w1 := by rw [hd1, hw1]; exact S1.out
            rw [← hw1]
            clear hw1 hd1 S1
            obtain ⟨R1, R2, hpm, hx⟩ := HPA.out.rot HT.out HR.out hb hrot
            have hz1 : d1.size = d.size := hrot.size
            have PM := Lib.hid hpm; have HX := Lib.hid hx; have HR2 := Lib.hid R2; have HZ1 := Lib.hid hz1
            clear hrot hpm hx R2
            have hlc := HIH.out a s mid d1 w1 (by omega) (by omega) (by omega) (by rw [hz1]; omega) (hs.trans hz1.symm) S2 R1
            rw [hz1] at hlc
            have HLC := Lib.hid hlc
            clear hlc S2 R1 hz1
            go_wp2_with fail
            all_goals refine HLC.out.mono ?_
            all_goals rintro _ w2 ⟨rfl, d2, M1, S3⟩
            all_goals have hz2 : d2.size = d.size := M1.perm.1.trans HZ1.out
            all_goals have R3 := HR2.out.of_perm h3 h4 M1.perm (.inl (Nat.le_refl _))
            all_goals have HM1 := Lib.hid M1; have HZ2 := Lib.hid hz2
            all_goals clear M1
            all_goals have HF := Lib.hid (HPA.out.merged hb PM.out HX.out HM1.out (R3.lone (by omega)))
            all_goals have S5 := Lib.hid S3
            all_goals clear S3 R3 hz2
            all_goals go_wp2
            all_goals go_end0
            all_goals exact ⟨rfl, _, HF.out, S5.out⟩
        · as_aux_lemma =>
            obtain ⟨d1, hd1⟩ : ∃ d1, d1 = d := ⟨_, rfl⟩
            have hrot : Rot s m e d d1 := by rw [hd1]; rcases (by omega : s = m ∨ e = m) with q | q; (rw [q]; exact Rot.same_left m e d); (rw [q]; exact Rot.same_right s m d)
            obtain ⟨w1, hw1⟩ : ∃ w1, w1 = wr := ⟨_, rfl⟩
            have S2 : SWK enc K w0 blk off d1 w1 := by rw [hd1, hw1]; exact S1.out
            rw [← hw1]
            clear hw1 hd1 S1
            obtain ⟨R1, R2, hpm, hx⟩ := HPA.out.rot HT.out HR.out hb hrot
            have hz1 : d1.size = d.size := hrot.size
            have PM := Lib.hid hpm; have HX := Lib.hid hx; have HR2 := Lib.hid R2; have HZ1 := Lib.hid hz1
            clear hrot hpm hx R2
            obtain ⟨d2, hd2⟩ : ∃ d2, d2 = d1 := ⟨_, rfl⟩
            have M1 : Mrg le a mid d1 d2 := by rw [hd2]; exact R1.lone (by omega)
            obtain ⟨w2, hw2⟩ : ∃ w2, w2 = w1 := ⟨_, rfl⟩
            have S3 : SWK enc K w0 blk off d2 w2 := by rw [hd2, hw2]; exact S2
            rw [← hw2]
            clear hw2 hd2 S2 R1 hz1
            all_goals have hz2 : d2.size = d.size := M1.perm.1.trans HZ1.out
            all_goals have R3 := HR2.out.of_perm h3 h4 M1.perm (.inl (Nat.le_refl _))
            all_goals have HM1 := Lib.hid M1; have HZ2 := Lib.hid hz2
            all_goals clear M1
            all_goals have htc := HIH.out mid e b d2 w2 (by omega) (by omega) (by omega) (by rw [hz2]; exact hb) (hs.trans hz2.symm) S3 R3
            all_goals rw [hz2] at htc
            all_goals have HTC := Lib.hid htc
            all_goals clear htc S3 R3 hz2
            all_goals go_wp2_with fail
            all_goals refine HTC.out.mono ?_
            all_goals rintro _ w3 ⟨rfl, d3, M2, S4⟩
            all_goals have HF := Lib.hid (HPA.out.merged hb PM.out HX.out HM1.out M2)
            all_goals have S5 := Lib.hid S4
            all_goals clear M2 S4
            all_goals go_wp2
            all_goals go_end0
            all_goals exact ⟨rfl, _, HF.out, S5.out⟩
        · as_aux_lemma =>
            obtain ⟨d1, hd1⟩ : ∃ d1, d1 = d := ⟨_, rfl⟩
            have hrot : Rot s m e d d1 := by rw [hd1]; rcases (by omega : s = m ∨ e = m) with q | q; (rw [q]; exact Rot.same_left m e d); (rw [q]; exact Rot.same_right s m d)
            obtain ⟨w1, hw1⟩ : ∃ w1, w1 = wr := ⟨_, rfl⟩
            have S2 : SWK enc K w0 blk off d1 w1 := by rw [hd1, hw1]; exact S1.out
            rw [← hw1]
            clear hw1 hd1 S1
            obtain ⟨R1, R2, hpm, hx⟩ := HPA.out.rot HT.out HR.out hb hrot
            have hz1 : d1.size = d.size := hrot.size
            have PM := Lib.hid hpm; have HX := Lib.hid hx; have HR2 := Lib.hid R2; have HZ1 := Lib.hid hz1
            clear hrot hpm hx R2
            obtain ⟨d2, hd2⟩ : ∃ d2, d2 = d1 := ⟨_, rfl⟩
            have M1 : Mrg le a mid d1 d2 := by rw [hd2]; exact R1.lone (by omega)
            obtain ⟨w2, hw2⟩ : ∃ w2, w2 = w1 := ⟨_, rfl⟩
            have S3 : SWK enc K w0 blk off d2 w2 := by rw [hd2, hw2]; exact S2
            rw [← hw2]
            clear hw2 hd2 S2 R1 hz1
            all_goals have hz2 : d2.size = d.size := M1.perm.1.trans HZ1.out
            all_goals have R3 := HR2.out.of_perm h3 h4 M1.perm (.inl (Nat.le_refl _))
            all_goals have HM1 := Lib.hid M1; have HZ2 := Lib.hid hz2
            all_goals clear M1
            all_goals have HF := Lib.hid (HPA.out.merged hb PM.out HX.out HM1.out (R3.lone (by omega)))
            all_goals have S5 := Lib.hid S3
            all_goals clear S3 R3 hz2
            all_goals go_wp2
            all_goals go_end0
            all_goals exact ⟨rfl, _, HF.out, S5.out⟩

theorem sym_allS {K : Nat} (zE : ∀ w, (Go.sizeOf 108).run Try.prog w = .ok K w) {enc : Nat → List Value} {blk off cap : Nat} {d0 : Array Nat} {w0 : World} {cf : Nat → Nat → Int} {le : Nat → Nat → Prop} (tr : ∀ x y z, le x y → le y z → le x z) {g : Nat} {cb : Array Value}
    (eg : ∀ args w, (callFunc g args).run Try.prog w = .ok (.enter g args) w) (hcmp : CmpLays Try.prog g cb enc K cf blk off d0.size w0) (R : RowK enc K w0 blk off d0) (hsz : d0.size < 4611686018427387904) :
    ∀ N, SymIHS K enc cf le g cb d0 w0 blk off cap N
  | 0 => fun _ _ _ _ _ h => absurd h (by omega)
  | N + 1 => fun a m b d w h1 h2 h3 h4 h5 h6 h7 => by
    have ih := sym_allS zE tr eg hcmp R hsz (cap := cap) N
    by_cases c1 : m = a + 1
    · exact sym_firstS zE tr eg hcmp R h5 h6 c1 h3 h4 (by omega) h7
    · by_cases c2 : b = m + 1
      · exact sym_lastS zE tr eg hcmp R h5 h6 c2 (by omega) h4 (by omega) h7
      · exact sym_restS zE tr eg hcmp R h5 h6 (by omega) (by omega) h4 (by omega) h7 (fun a' m' b' d' w' g1 g2 g3 g4 g5 g6 g7 => ih a' m' b' d' w' (by omega) g2 g3 g4 g5 g6 g7)

/-- two runs of ints merged -/
theorem sym_anyS {K : Nat} (zE : ∀ w, (Go.sizeOf 108).run Try.prog w = .ok K w) {enc : Nat → List Value} {blk off cap a m b : Nat} {d0 d : Array Nat} {w0 w : World} {cf : Nat → Nat → Int} {le : Nat → Nat → Prop} (tr : ∀ x y z, le x y → le y z → le x z) {g : Nat} {cb : Array Value}
    (eg : ∀ args w, (callFunc g args).run Try.prog w = .ok (.enter g args) w) (hcmp : CmpLays Try.prog g cb enc K cf blk off d0.size w0) (R : RowK enc K w0 blk off d0) (hs : d0.size = d.size) (S : SWK enc K w0 blk off d w)
    (ham : a < m) (hmb : m < b) (hb : b ≤ d.size) (hsz : d.size < 4611686018427387904) (hr : Runs (ltOf cf) le a m b d) :
    Calls Try.prog 146 #[.slice (some ⟨blk, off, none⟩) d.size cap, .int .i64 a, .int .i64 m, .int .i64 b, .func (.func g) #[] cb] w fun e w' => e = .returned (.tuple #[]) ∧ ∃ d', Mrg le a b d d' ∧ SWK enc K w0 blk off d' w' :=
  sym_allS zE tr eg hcmp R (by omega) (b - a + 1) a m b d w (by omega) ham hmb hb hs S hr
end Go.Proofs.Ytgnigkghkldcfaa
