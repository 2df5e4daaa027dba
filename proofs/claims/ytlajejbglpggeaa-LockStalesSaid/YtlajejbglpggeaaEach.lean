/-
  lock.each, over whatever the two functions come to that it hands locks to.
-/
import Derived.Test.YtlajejbglpggeaaLock1
import Derived.Test.YtlajejbglpggeaaLock2
import Derived.Test.YtlajejbglpggeaaStore
namespace Go.Proofs.Ytlajejbglpggeaa
open Go.RowKit Go.Proofs Go.Lib

section
variable {T : Type}
/-- the names, one by one -/
def eachF (butF : Nat → Bool) (step : OS → T → Nat → Bs → Bs → Except (Int × OS × T) (OS × T)) : List Bs → OS → T → Except (Int × OS × T) (OS × T)
  | [], s, t => .ok (s, t)
  | nm :: r, s, t =>
    match parseB nm with
    | none => eachF butF step r s t
    | some who =>
      if butF who = true then eachF butF step r s t else
        if s.getCode nm = 4 then eachF butF step r s.op t else
          if s.getCode nm ≠ 0 then .error (s.getCode nm, s.op, t) else
            match step s.op t who nm (s.getBytes nm) with
            | .ok (s', t') => eachF butF step r s' t'
            | .error x => .error x
def eachW (butF : Nat → Bool) (step : OS → T → Nat → Bs → Bs → Except (Int × OS × T) (OS × T)) (s : OS) (t : T) : Except (Int × OS × T) (OS × T) :=
  if s.code ≠ 0 then .error (s.code, s.op, t) else eachF butF step (s.names lockP) s.op t

/-- how a run ends, and what stands behind it -/
def EndsAs (I : OS → T → World → Prop) (x : Except (Int × OS × T) (OS × T)) (e : Ending) (w' : World) : Prop :=
  match x with
  | .ok (s, t) => e = .returned (.tuple #[]) ∧ I s t w'
  | .error (k, s, t) => e = .panicked (errChain k) ∧ I s t w'

/-- what each asks of its two functions -/
structure EachH (w : World) (sb : Nat) (S K : Nat → Prop) (I : (Nat → Prop) → Nat → OS → T → World → Prop) (cb cd : Clo) (butF : Nat → Bool) (step : OS → T → Nat → Bs → Bs → Except (Int × OS × T) (OS × T)) : Prop where
  st : ∀ p n s t W, I p n s t W → St W sb (.pointer none) S s
  left : ∀ p n s t W, I p n s t W → s.left = -1
  up : ∀ p n s t W, I p n s t W → I p (n + 1) s t W
  got : ∀ p n s t W W', I p n s t W → St W' sb (.pointer none) S s.op → Turn S S W W' → I p n s.op t W'
  init : ∀ s t W W' p, I (fun _ => False) 0 s t W → St W' sb (.pointer none) S s.op → Turn S S W W' → (∀ x, p x → W.heap.size ≤ x ∧ x < W'.heap.size) → I p 0 s.op t W'
  sk : ∀ x, S x → K x
  low : ∀ x, K x → x < w.heap.size
  eb : Enters Try.prog cb.g
  ed : Enters Try.prog cd.g
  but : ∀ p n s t W who, I p n s t W → who < 18446744073709551616 → Calls Try.prog cb.g (cb.first ++ #[.int .u64 (who : Nat)] ++ cb.cap) W fun e w' => e = .returned (.bool (butF who)) ∧ W = w'
  stepd : ∀ p n s t W who nm b v, I p n s t W → n < 4096 → s.ops < 4611686018427387904 → BytesAt W v b → b.length ≤ 1048576 → nm.length ≤ 4096 → who < 18446744073709551616 → Calls Try.prog cd.g (cd.first ++ #[.int .u64 (who : Nat), strV nm, v] ++ cd.cap) W fun e w' => Keep (fun x => ¬ p x ∧ (K x ∨ w.heap.size ≤ x)) W w' ∧ EndsAs (I p (n + 1)) (step s t who nm b) e w'
  ops : ∀ s t who nm b s' t', step s t who nm b = .ok (s', t') → s'.ops ≤ s.ops + 1

theorem parseB_lt {l : Bs} {n : Nat} (h : parseB l = some n) : n < 18446744073709551616 := by
  have aux : ∀ (r : Bs) (m k : Nat), m < 16 ^ k → hexF m r = some n → n < 16 ^ (k + r.length) := by
    intro r
    induction r with
    | nil => intro m k hm h; cases h; exact hm
    | cons c r ih =>
      intro m k hm h
      simp only [hexF] at h
      split at h
      · cases h
      · rename_i d hd
        have := hexV_lt hd
        have h2 := ih (16 * m + d) (k + 1) (by rw [Nat.pow_succ]; omega) h
        rw [List.length_cons, show k + (r.length + 1) = k + 1 + r.length from by omega]
        exact h2
  unfold parseB at h
  split at h
  · rename_i hc
    have := aux _ 0 0 (by decide) h
    rw [hc.2] at this
    exact this
  · cases h

theorem parseB_len {l : Bs} {n : Nat} (h : parseB l = some n) : l.length = 21 := by
  unfold parseB at h
  split at h
  · rename_i hc
    obtain ⟨h1, h2⟩ := hc
    unfold Lib.trimPrefix at h2
    rw [if_pos h1, List.length_drop] at h2
    have : lockP.length = 5 := rfl
    omega
  · cases h
theorem getBytes_len {s : OS} (h : s.Ok) (nm : Bs) : (s.getBytes nm).length ≤ 1048576 := by
  unfold OS.getBytes
  split
  · simp
  · cases hl : lk s.row nm with
    | none => simp
    | some b => exact (h.names _ (lk_mem hl)).2

theorem EachH.turn {w : World} {sb : Nat} {S K : Nat → Prop} {I : (Nat → Prop) → Nat → OS → T → World → Prop} {cb cd : Clo} {butF : Nat → Bool} {step : OS → T → Nat → Bs → Bs → Except (Int × OS × T) (OS × T)} (H : EachH w sb S K I cb cd butF step) {W W' : World} (h : Turn S S W W') : Keep K W W' := h.keep.mono (fun i _ e => H.sk i e)

set_option maxRecDepth 100000 in
set_option maxHeartbeats 4000000 in
theorem each_any {w : World} {sb : Nat} {S K : Nat → Prop} {I : (Nat → Prop) → Nat → OS → T → World → Prop} {cb cd : Clo} {butF : Nat → Bool} {step : OS → T → Nat → Bs → Bs → Except (Int × OS × T) (OS × T)} (H : EachH w sb S K I cb cd butF step)
    {s : OS} {t : T} (hI : I (fun _ => False) 0 s t w) (ho : s.ops ≤ 4000000000000000000) :
    Calls Try.prog 23 #[.pointer (some ⟨sb, 0, none⟩), cb.val, cd.val] w fun e w' => Keep K w w' ∧ ∃ p n, EndsAs (I p n) (eachW butF step s t) e w' := by
  have hst := H.st _ _ _ _ _ hI
  have hleft := H.left _ _ _ _ _ hI
  have hSl : ∀ x, S x → x < w.heap.size := hst.lt
  have hok := hst.ok
  have HL := Lib.hid (hst.list (by rw [hleft]; decide) (by omega) ⟨lockP.toArray⟩)
  unfold lockP at HL
  obtain ⟨c, hc⟩ : ∃ c, c = s.code := ⟨_, rfl⟩
  unfold ListSt at HL
  rw [← hc] at HL
  have HC := Lib.hid hc
  have HH := Lib.hid H
  have HI := Lib.hid hI
  have eb : ∀ args w, (callFunc cb.g args).run Try.prog w = .ok (.enter cb.g args) w := H.eb
  have ed : ∀ args w, (callFunc cd.g args).run Try.prog w = .ok (.enter cd.g args) w := H.ed
  have HSL := Lib.hid hSl
  have HO := Lib.hid ho; have HOK := Lib.hid hok
  clear hst hleft hok hc H hI ho hSl
  obtain ⟨gb, fb, qb⟩ := cb
  obtain ⟨gd, fd, qd⟩ := cd
  dsimp only at eb ed
  unfold Clo.val
  by_cases h0 : c = 0
  · subst h0
    obtain ⟨nl, hnl⟩ : ∃ nl, nl = s.names lockP := ⟨_, rfl⟩
    have hli : s.listed lockP = nl := by unfold OS.listed; rw [← HC.out, if_pos rfl, hnl]
    have hlen : nl.length ≤ 4096 := by
      have h1 : nl.length ≤ s.row.length := by
        rw [hnl]
        unfold OS.names
        have := List.length_filter_le (fun x => hasPre x lockP) (s.row.map (·.1))
        rw [List.length_map] at this
        exact this
      have := HOK.out.many
      omega
    have HW := Lib.hid (show eachW butF step s t = eachF butF step nl s.op t from by unfold eachW; rw [← HC.out, if_neg (by simp), hnl])
    have hlq : ListSt sb (.pointer none) S s lockP w = ListSt sb (.pointer none) S s lockP w := rfl
    unfold lockP at hli
    rw [hli] at HL
    clear hlq hnl hli
    go_enter Try.func23, Try.ntmps23
    go_wp2_with fail
    refine HL.out.mono ?_
    rintro e w1 ⟨v, rfl, h1, t1, hs1, hb1⟩
    obtain ⟨p, hp⟩ : ∃ p : Nat → Prop, p = fun x => 0 < nl.length ∧ vblk v = some x := ⟨_, rfl⟩
    have HG := Lib.hid (HH.out.init _ _ _ _ p HI.out h1 t1 (fun x e => by rw [hp] at e; exact ⟨hb1 x e.2, Sl.lt hs1 (by decide) e.1 e.2⟩))
    have HPL := Lib.hid (show ∀ x, p x → w.heap.size ≤ x from fun x e => hb1 x (by rw [hp] at e; exact e.2))
    have HK := Lib.hid (HH.out.turn t1)
    have HPV := Lib.hid (show ∀ x, 0 < nl.length → vblk v = some x → p x from fun x h e => by rw [hp]; exact ⟨h, e⟩)
    clear hp
    obtain ⟨N, hN⟩ : ∃ N, N = nl.length := ⟨_, rfl⟩
    obtain ⟨va, vc, rfl⟩ : ∃ a c, v = .slice a nl.length c := let ⟨_, a, c, e, _⟩ := hs1; ⟨a, c, e⟩
    unfold StrsAt at hs1
    rw [← hN] at hs1 hlen hb1 HPV ⊢
    have HS1 := Lib.hid hs1; have HB1 := Lib.hid hb1; have HN := Lib.hid hN
    have hop : s.op.ops = s.ops + 1 := rfl
    have HOP := Lib.hid hop
    clear h1 t1 hs1 hb1 hN hop
    go_wp2_with fail
    refine (valStrs_ok _ _).mono ?_
    rintro e w2 ⟨rfl, rfl⟩
    go_wp2
    go_loopg [18] N (fun g v18 wr => ∃ (i : Nat) (s1 : OS) (t1 : T), i ≤ N ∧ g = N - i ∧ v18 = .int .i64 i ∧ Hid (I p i s1 t1 wr) ∧ Hid (Keep K w wr) ∧ Hid (Keep (fun x => ¬ p x) w1 wr) ∧ Hid (s1.ops ≤ s.ops + 1 + 2 * i) ∧ Hid (eachF butF step nl s.op t = eachF butF step (nl.drop i) s1 t1))
    case atStart => exact ⟨0, s.op, t, Nat.zero_le _, rfl, rfl, HG, HK, Lib.hid (Keep.refl _ _), Lib.hid (by rw [HOP.out]; omega), Lib.hid rfl⟩
    case round =>
      obtain ⟨i, s1, t1, hi, hg, rfl, HI1, HK1, HKR, HO1, HE1⟩ := hrel
      by_cases hlt : i < N
      · obtain ⟨nm, hnm⟩ : ∃ x, x = nl[i]'(by rw [← HN.out]; exact hlt) := ⟨_, rfl⟩
        have hget : nl[i]? = some nm := by rw [hnm]; exact List.getElem?_eq_getElem _
        have hdr : nl.drop i = nm :: nl.drop (i + 1) := by rw [hnm]; exact List.drop_eq_getElem_cons _
        have hlow : ∀ b, vblk (.slice va N vc) = some b → p b := fun b e => HPV.out b (by omega) e
        have hsr := Sl.keep HS1.out HKR.out (fun b _ e => fun h => h (hlow b e))
        obtain ⟨lb, lo, c2, ev, lv1, lv2⟩ := Sl.base HS1.out (by omega)
        cases ev
        have c0 : wr.cell? ⟨lb, lo + i, none⟩ = some (strV nm) := Sl.at1 hsr (by rw [List.getElem?_map, hget]; rfl)
        have HG2 := Lib.hid hg; have HLT := Lib.hid hlt; have HDR := Lib.hid hdr
        obtain ⟨P, hP⟩ : ∃ P, P = parseB nm := ⟨_, rfl⟩
        have hlp := lkparse_any nm wr
        unfold ParsePost at hlp
        rw [← hP] at hlp
        have HLP := Lib.hid hlp
        have HP := Lib.hid hP
        simp only [strV] at c0
        clear hg hnm hget hdr hlow hsr hlp hP
        cases P with
        | none =>
          go_wp2_with fail
          refine HLP.out.mono ?_
          rintro e w3 ⟨rfl, rfl⟩
          go_wp2
          go_roundg (N - (i + 1))
          case measure => have := HG2.out; have := HLT.out; omega
          case rel =>
            refine ⟨i + 1, s1, t1, HLT.out, rfl, by go_num, Lib.hid (HH.out.up _ _ _ _ _ HI1.out), HK1, HKR, Lib.hid (by have := HO1.out; push_cast; omega), Lib.hid ?_⟩
            rw [HE1.out, HDR.out]
            show (match parseB nm with | none => _ | some who => _) = _
            rw [← HP.out]
        | some who =>
          have hwho := parseB_lt HP.out.symm
          have hlen21 := parseB_len HP.out.symm
          obtain ⟨B, hB⟩ : ∃ B, B = butF who := ⟨_, rfl⟩
          have hbut := HH.out.but _ _ _ _ _ who HI1.out hwho
          rw [← hB] at hbut
          have HBUT := Lib.hid hbut; have HBB := Lib.hid hB
          dsimp only at HBUT
          rw [show fb ++ #[Value.int .u64 (who : Int)] = fb.push (.int .u64 (who : Int)) from by simp] at HBUT
          clear hbut hB
          cases B
          · obtain ⟨c, hc⟩ : ∃ c, c = s1.getCode nm := ⟨_, rfl⟩
            have hst1 := HH.out.st _ _ _ _ _ HI1.out
            have hops : s1.ops < 4611686018427387904 := by have := HO1.out; have := HO.out; omega
            have hget := hst1.get (by rw [HH.out.left _ _ _ _ _ HI1.out]; decide) hops ⟨nm.toArray⟩ (by show nm.toArray.size ≤ maxLen; rw [List.size_toArray, hlen21]; decide)
            have hbl := getBytes_len hst1.ok nm
            have hE : eachF butF step nl s.op t = if c = 4 then eachF butF step (nl.drop (i + 1)) s1.op t1 else if c ≠ 0 then .error (c, s1.op, t1) else match step s1.op t1 who nm (s1.getBytes nm) with
                | .ok (s', t') => eachF butF step (nl.drop (i + 1)) s' t'
                | .error x => .error x := by
              rw [HE1.out, HDR.out, hc]
              show (match parseB nm with | none => _ | some who => _) = _
              rw [← HP.out]
              show (if butF who = true then _ else _) = _
              rw [if_neg (by rw [← HBB.out]; decide)]
            unfold GetSt at hget
            dsimp only at hget
            rw [← hc] at hget
            have HGET := Lib.hid hget; have HE := Lib.hid hE; have HBL := Lib.hid hbl
            have HO2 := Lib.hid (show s1.op.ops = s1.ops + 1 from rfl)
            clear hc hst1 hops hget hbl hE
            by_cases h4 : c = 4
            · have HE4 := Lib.hid (show eachF butF step nl s.op t = eachF butF step (nl.drop (i + 1)) s1.op t1 from by rw [HE.out, if_pos h4])
              subst h4
              go_wp2_with fail
              refine HLP.out.mono ?_
              rintro e w3 ⟨rfl, rfl⟩
              go_wp2_with fail
              refine HBUT.out.mono ?_
              rintro e w3 ⟨rfl, rfl⟩
              go_wp2_with fail
              refine HGET.out.mono ?_
              rintro e w3 ⟨v3, rfl, h3, t3, hv3⟩
              have HI3 := Lib.hid (HH.out.got _ _ _ _ _ _ HI1.out h3 t3)
              have HT3 := Lib.hid (HH.out.turn t3)
              have HR3 := Lib.hid (show Keep (fun x => ¬ p x) _ _ from t3.keep.mono (fun i _ e h => by have h1 := HSL.out i e; have h2 := HPL.out i h; omega))
              clear h3 t3 hv3
              go_wp2_with fail
              refine (lkgone_any 4 _).mono ?_
              rintro e w4 ⟨rfl, rfl⟩
              rw [if_pos rfl]
              go_wp2_with fail
              refine (must_ok _).mono ?_
              rintro e w4 ⟨rfl, rfl⟩
              go_wp2
              go_roundg (N - (i + 1))
              case measure => have := HG2.out; have := HLT.out; omega
              case rel => exact ⟨i + 1, s1.op, t1, HLT.out, rfl, by go_num, Lib.hid (HH.out.up _ _ _ _ _ HI3.out), Lib.hid (HK1.out.trans HT3.out), Lib.hid (HKR.out.trans HR3.out), Lib.hid (by have := HO1.out; rw [HO2.out]; push_cast; omega), HE4⟩
            · by_cases h0 : c = 0
              · have HE0 := Lib.hid (show eachF butF step nl s.op t = match step s1.op t1 who nm (s1.getBytes nm) with
                | .ok (s', t') => eachF butF step (nl.drop (i + 1)) s' t'
                | .error x => .error x from by rw [HE.out, if_neg h4, if_neg (fun h => h h0)])
                subst h0
                clear h4
                go_wp2_with fail
                refine HLP.out.mono ?_
                rintro e w3 ⟨rfl, rfl⟩
                go_wp2_with fail
                refine HBUT.out.mono ?_
                rintro e w3 ⟨rfl, rfl⟩
                go_wp2_with fail
                refine HGET.out.mono ?_
                rintro e w3 ⟨v3, rfl, h3, t3, hv3⟩
                have HI3 := Lib.hid (HH.out.got _ _ _ _ _ _ HI1.out h3 t3)
                have HT3 := Lib.hid (HH.out.turn t3)
                have HR3 := Lib.hid (show Keep (fun x => ¬ p x) _ _ from t3.keep.mono (fun i _ e h => by have h1 := HSL.out i e; have h2 := HPL.out i h; omega))
                have HST := Lib.hid (HH.out.stepd _ _ _ _ w3 who nm _ v3 HI3.out (by omega) (by rw [HO2.out]; have := HO1.out; have := HO.out; omega) (Sl.of_owns hv3).1 HBL.out (by omega) hwho)
                dsimp only at HST
                rw [Array.append_assoc] at HST
                obtain ⟨x, hx⟩ : ∃ x, x = step s1.op t1 who nm (s1.getBytes nm) := ⟨_, rfl⟩
                rw [← hx] at HST HE0
                have HX := Lib.hid hx
                clear hx
                obtain ⟨a3, c3, rfl⟩ := own_slice hv3
                clear h3 t3 hv3
                go_wp2_with fail
                refine (lkgone_any 0 _).mono ?_
                rintro e w4 ⟨rfl, rfl⟩
                rw [if_neg (by decide)]
                go_wp2_with fail
                refine (must_ok _).mono ?_
                rintro e w4 ⟨rfl, rfl⟩
                go_wp2_with fail
                refine HST.out.mono ?_
                rintro e w5 ⟨k5, he⟩
                have HK5 := Lib.hid ((HK1.out.trans HT3.out).trans' k5 (fun _ _ e => e) (fun i hi e => e.2.elim id (fun e => by omega))); have HKR5 := Lib.hid ((HKR.out.trans HR3.out).trans' k5 (fun _ _ e => e) (fun _ _ e => e.1))
                clear k5
                cases x with
                | error y =>
                  obtain ⟨k, s', t'⟩ := y
                  obtain ⟨rfl, hI'⟩ := he
                  exact ⟨rfl, HK5.out, p, _, by rw [HW.out, HE0.out]; exact ⟨rfl, hI'⟩⟩
                | ok y =>
                  obtain ⟨s', t'⟩ := y
                  obtain ⟨rfl, hI'⟩ := he
                  have HI' := Lib.hid hI'
                  clear hI'
                  go_wp2
                  go_roundg (N - (i + 1))
                  case measure => have := HG2.out; have := HLT.out; omega
                  case rel => exact ⟨i + 1, s', t', HLT.out, rfl, by go_num, HI', HK5, HKR5, Lib.hid (by have h1 := HH.out.ops _ _ _ _ _ _ _ HX.out.symm; rw [HO2.out] at h1; have := HO1.out; push_cast; omega), Lib.hid HE0.out⟩
              · have HE0 := Lib.hid (show eachW butF step s t = .error (c, s1.op, t1) from by rw [HW.out, HE.out, if_neg h4, if_pos h0])
                have H4 := Lib.hid h4; have H0 := Lib.hid h0
                clear h4 h0
                go_wp2_with fail
                refine HLP.out.mono ?_
                rintro e w3 ⟨rfl, rfl⟩
                go_wp2_with fail
                refine HBUT.out.mono ?_
                rintro e w3 ⟨rfl, rfl⟩
                go_wp2_with fail
                refine HGET.out.mono ?_
                rintro e w3 ⟨v3, rfl, h3, t3, hv3⟩
                have HI3 := Lib.hid (HH.out.got _ _ _ _ _ _ HI1.out h3 t3)
                have HT3 := Lib.hid (HH.out.turn t3)
                have HR3 := Lib.hid (show Keep (fun x => ¬ p x) _ _ from t3.keep.mono (fun i _ e h => by have h1 := HSL.out i e; have h2 := HPL.out i h; omega))
                clear h3 t3 hv3
                go_wp2_with fail
                refine (lkgone_any c _).mono ?_
                rintro e w4 ⟨rfl, rfl⟩
                rw [if_neg H4.out]
                go_wp2_with fail
                refine (must_err c H0.out _).mono ?_
                rintro e w4 ⟨rfl, rfl⟩
                exact ⟨rfl, HK1.out.trans HT3.out, p, _, by rw [HE0.out]; exact ⟨rfl, HI3.out⟩⟩
          · go_wp2_with fail
            refine HLP.out.mono ?_
            rintro e w3 ⟨rfl, rfl⟩
            go_wp2_with fail
            refine HBUT.out.mono ?_
            rintro e w3 ⟨rfl, rfl⟩
            go_wp2
            go_roundg (N - (i + 1))
            case measure => have := HG2.out; have := HLT.out; omega
            case rel =>
              refine ⟨i + 1, s1, t1, HLT.out, rfl, by go_num, Lib.hid (HH.out.up _ _ _ _ _ HI1.out), HK1, HKR, Lib.hid (by have := HO1.out; push_cast; omega), Lib.hid ?_⟩
              rw [HE1.out, HDR.out]
              show (match parseB nm with | none => _ | some who => _) = _
              rw [← HP.out]
              show (if butF who = true then _ else _) = _
              rw [if_pos HBB.out.symm]
      · have hiN : i = N := by omega
        subst hiN
        have HEN := Lib.hid (show eachW butF step s t = .ok (s1, t1) from by rw [HW.out, HE1.out, List.drop_eq_nil_of_le (by rw [← HN.out]; exact Nat.le_refl _)]; rfl)
        clear hg hlt hi
        go_wp2
        go_end0
        exact ⟨HK1.out, p, _, by rw [HEN.out]; exact ⟨rfl, HI1.out⟩⟩
  · have HN := Lib.hid (show eachW butF step s t = .error (c, s.op, t) from by unfold eachW; rw [← HC.out, if_pos h0])
    have H0 := Lib.hid h0
    clear h0
    go_enter Try.func23, Try.ntmps23
    go_wp2_with fail
    refine HL.out.mono ?_
    rintro e w1 ⟨v, rfl, h1, t1, -, -⟩
    have HG := Lib.hid (HH.out.got _ _ _ _ _ _ HI.out h1 t1)
    have HK := Lib.hid (HH.out.turn t1)
    clear h1 t1
    go_wp2_with fail
    refine (valStrs_err _ c H0.out _).mono ?_
    rintro e w2 ⟨rfl, rfl⟩
    exact ⟨rfl, HK.out, _, _, by rw [HN.out]; exact ⟨rfl, HG.out⟩⟩
end
end Go.Proofs.Ytlajejbglpggeaa
