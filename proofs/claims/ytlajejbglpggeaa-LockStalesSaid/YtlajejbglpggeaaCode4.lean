/-
  code.Decode, over whatever the reading comes to.
-/
import Derived.Test.YtlajejbglpggeaaCode3
namespace Go.Proofs.Ytlajejbglpggeaa
open Go.RowKit Go.Proofs Go.Lib

/-- what a reading comes to: it returns, with so much left, or throws an error -/
def ReadPost (F : Nat → Prop) (rb : Nat) (Q : Bs → World → Prop) (Qe : Int → World → Prop) (W : World) (e : Ending) (w' : World) : Prop :=
  Keep (fun x => F x ∨ x = rb) W w' ∧ ((e = .returned (.tuple #[]) ∧ ∃ rest, RdAt w' rb rest ∧ Q rest w') ∨ ∃ k, e = .panicked (errChain k) ∧ Qe k w')

set_option maxRecDepth 100000 in
theorem decode1_any (c : Clo) (hE : Enters Try.prog c.g) {W : World} {pb qb rb : Nat} {F : Nat → Prop} {Q : Bs → World → Prop} {Qe : Int → World → Prop}
    (hp : W.heap[pb]? = some (.cells #[c.val] 99 (0, 0))) (hq : W.heap[qb]? = some (.cells #[.pointer (some ⟨rb, 0, none⟩)] 97 (0, 0))) (hqF : ¬ F qb) (hqr : qb ≠ rb)
    (hR : Calls Try.prog c.g (c.first ++ #[.pointer (some ⟨rb, 0, none⟩)] ++ c.cap) W (ReadPost F rb Q Qe W)) :
    Calls Try.prog 70 #[.pointer (some ⟨pb, 0, none⟩), .pointer (some ⟨qb, 0, none⟩)] W fun e w' => Keep (fun x => F x ∨ x = rb) W w' ∧
      ((e = .returned (.tuple #[]) ∧ ∃ rest, rest.length = 0 ∧ Q rest w') ∨ ∃ k, e = .panicked (errChain k) ∧ ((∃ rest, rest.length ≠ 0 ∧ Q rest w' ∧ k = 22) ∨ Qe k w')) := by
  obtain ⟨g, first, cap⟩ := c
  unfold Clo.val at hp
  have eg : ∀ args w, (callFunc g args).run Try.prog w = .ok (.enter g args) w := hE
  dsimp only at hR
  have c0 := cell_blk hp 0
  have c1 := cell_blk hq 0
  simp at c0 c1
  have HR := Lib.hid hR; have HQ := Lib.hid hq
  have NF := Lib.hid hqF; have NR := Lib.hid hqr
  clear hR hp hq hqF hqr
  go_enter Try.func70, Try.ntmps70
  go_wp2_with fail
  refine HR.out.mono ?_
  rintro e w1 ⟨hk, (⟨rfl, rest, hr, hQ⟩ | ⟨k, rfl, hQe⟩)⟩
  · have c1 : w1.cell? ⟨qb, 0, none⟩ = some (.pointer (some ⟨rb, 0, none⟩)) := by rw [cell_blk (hk.heap HQ.out (fun e => e.elim NF.out NR.out))]; rfl
    have HK := Lib.hid hk; have H1 := Lib.hid hQ; have HL := Lib.hid (rdleft_any hr)
    clear hk hQ hr
    obtain ⟨n, hn⟩ : ∃ n, n = rest.length := ⟨_, rfl⟩
    rw [← hn] at HL
    have HN := Lib.hid hn
    clear hn
    by_cases h0 : n = 0
    · subst h0
      go_wp2_with fail
      refine HL.out.mono ?_
      rintro e w2 ⟨rfl, rfl⟩
      go_wp2
      go_end0
      exact ⟨HK.out, .inl ⟨rfl, rest, HN.out.symm, H1.out⟩⟩
    · go_wp2_with fail
      refine HL.out.mono ?_
      rintro e w2 ⟨rfl, rfl⟩
      go_wp2_with fail
      refine (must_err 22 (by decide) _).mono ?_
      rintro e w2 ⟨rfl, rfl⟩
      exact ⟨rfl, HK.out, .inr ⟨22, rfl, .inl ⟨rest, by rw [← HN.out]; exact h0, H1.out, rfl⟩⟩⟩
  · exact ⟨rfl, hk, .inr ⟨k, rfl, .inr hQe⟩⟩

theorem hbl0 {w w1 : World} {b : Nat} {o : Obj} (h : Below w.heap.size w w1) (hb : w.heap[b]? = some o) : w1.heap[b]? = some o := (h.block b (lt_blk hb)).trans hb

/-- what Decode comes to -/
def DecPost (F : Nat → Prop) (Q : Bs → World → Prop) (Qe : Int → World → Prop) (w : World) (e : Ending) (w' : World) : Prop :=
  ∃ w1 k, e = .returned (.int .i64 k) ∧ Keep F w w1 ∧ Keep (fun x => w.heap.size ≤ x) w1 w' ∧ ((∃ rest, Q rest w1 ∧ k = if rest.length = 0 then 0 else 22) ∨ Qe k w1)

set_option maxRecDepth 100000 in
theorem decode_any (c : Clo) (hE : Enters Try.prog c.g) {w : World} {v : Value} {l : Bs} (hb : BytesAt w v l) (hl : l.length ≤ 140737488355328) {F : Nat → Prop} (hF : ∀ x, F x → x < w.heap.size) {Q : Bs → World → Prop} {Qe : Int → World → Prop}
    (hR : ∀ W rb, w.heap.size ≤ rb → Keep (fun _ => False) w W → RdAt W rb l → Calls Try.prog c.g (c.first ++ #[.pointer (some ⟨rb, 0, none⟩)] ++ c.cap) W (ReadPost F rb Q Qe W)) :
    Calls Try.prog 58 #[v, c.val] w (DecPost F Q Qe w) := by
  have hmf : ∀ (fn : Fn) (first cap : Array Value) (w : World), (Instr.makeFunc fn first cap).run Try.prog w = .ok (.func fn first cap) w := fun _ _ _ _ => rfl
  have HR := Lib.hid hR; have HE := Lib.hid hE; have HF := Lib.hid hF
  have ka := (Keep.refl (fun _ => False) w).alloc (.cells #[c.val] 99)
  have HC := Lib.hid (cloneB_any _ v l (Sl.keep hb ka (fun _ _ _ e => e)) hl)
  have HP := Lib.hid (alloc_new w (.cells #[c.val] 99))
  have HKA := Lib.hid ka
  clear hb hl ka hR hE hF
  obtain ⟨cv, hcv⟩ : ∃ x, x = c.val := ⟨_, rfl⟩
  rw [← hcv] at HC HP HKA ⊢
  have HCV := Lib.hid hcv
  have h1c : ∃ fn a b, cv = .func fn a b := ⟨_, _, _, hcv⟩
  clear hcv
  obtain ⟨fn, a1, a2, rfl⟩ := h1c
  go_enter Try.func58, Try.ntmps58
  go_wp2_with fail
  refine HC.out.mono ?_
  rintro e w1 ⟨v1, rfl, hs, hv, hbl⟩
  obtain ⟨va, vc, rfl⟩ : ∃ a c, v1 = .slice a l.length c := let ⟨_, a, c, e, _⟩ := hs; ⟨a, c, e⟩
  have HS := Lib.hid hs; have HV := Lib.hid hv; have HBL := Lib.hid hbl
  clear hs hv hbl
  go_wp2_with fail
  have kb : Keep (fun _ => False) w w1 := HKA.out.trans (Keep.of_below HBL.out _)
  obtain ⟨rb, hrb⟩ : ∃ rb, rb = w1.heap.size := ⟨_, rfl⟩
  obtain ⟨W4, hW4⟩ : ∃ W, W = (w1.alloc (.cells #[.slice va l.length vc] 113)).alloc (.cells #[.pointer (some ⟨w1.heap.size, 0, none⟩)] 97) := ⟨_, rfl⟩
  have hsz : w.heap.size < w1.heap.size := by
    have := HKA.out.size; have := HBL.out.size; rw [World.size_alloc] at this; omega
  have k4 : Keep (fun _ => False) w1 W4 := by rw [hW4]; exact ((Keep.refl _ w1).alloc _).alloc _
  have hr4 : RdAt W4 rb l := by
    refine ⟨.slice va l.length vc, ?_, Sl.keep HS.out k4 (fun _ _ _ e => e), fun x hx e => ?_⟩
    · rw [hW4, hrb]; exact alloc_blk (alloc_new _ _) _
    · have := Sl.lt HS.out (by decide) hx e; omega
  have hq4 : W4.heap[rb + 1]? = some (.cells #[.pointer (some ⟨rb, 0, none⟩)] 97 (0, 0)) := by
    have := alloc_new (w1.alloc (.cells #[.slice va l.length vc] 113)) (.cells #[.pointer (some ⟨w1.heap.size, 0, none⟩)] 97)
    rw [World.size_alloc] at this
    rw [hW4, hrb]; exact this
  have hp4 : W4.heap[w.heap.size]? = some (.cells #[.func fn a1 a2] 99 (0, 0)) := k4.heap (hbl0 HBL.out HP.out) id
  have hz4 : W4.heap.size = rb + 2 := by rw [hW4, hrb]; simp
  rw [← hW4, ← hrb]
  have hk5 := runW_keep W4
  have k5 : Keep (fun _ => False) w (runW W4) := (kb.trans k4).trans hk5
  have hrw : (runW W4).heap.size = rb + 3 := by unfold runW; simp [hz4]
  have hFs := HF.out
  have hD := decode1_any c HE.out (W := runW W4) (pb := w.heap.size) (qb := rb + 1) (rb := rb) (F := F) (Q := Q) (Qe := Qe) (by rw [← HCV.out]; exact hk5.heap hp4 id) (hk5.heap hq4 id) (fun e => by have := hFs _ e; omega) (by omega) (HR.out (runW W4) rb (by omega) k5 (hr4.keep hk5 (fun _ e => e)))
  have hE1 := enters_of Try.func70 (by kernel_rfl) rfl
  refine (run_any ⟨70, #[], #[.pointer (some ⟨w.heap.size, 0, none⟩), .pointer (some ⟨rb + 1, 0, none⟩)]⟩ hE1 W4 _ (by rfl) (fun w' => Keep (fun x => F x ∨ x = rb) (runW W4) w' ∧ ∃ rest, rest.length = 0 ∧ Q rest w') (fun k w' => Keep (fun x => F x ∨ x = rb) (runW W4) w' ∧ ((∃ rest, rest.length ≠ 0 ∧ Q rest w' ∧ k = 22) ∨ Qe k w'))
    (fun w' h => h.1.mono (fun i _ e => e.elim (fun e => by have := hFs _ e; omega) (fun e => by omega))) (fun k w' h => h.1.mono (fun i _ e => e.elim (fun e => by have := hFs _ e; omega) (fun e => by omega))) (hD.mono ?_)).mono ?_
  · rintro e w' ⟨h1, (⟨rfl, h2⟩ | ⟨k, rfl, h2⟩)⟩
    · exact .inl ⟨rfl, h1, h2⟩
    · exact .inr ⟨k, rfl, h1, h2⟩
  rintro e w5 ⟨w4, k, rfl, h5, k6⟩
  have hfin : DecPost F Q Qe w (.returned (.int .i64 k)) w5 := by
    have hk6 : Keep (fun x => w.heap.size ≤ x) w4 w5 := k6.mono (fun i _ e => by omega)
    rcases h5 with ⟨rfl, h1, rest, h2, h3⟩ | ⟨h1, h2⟩
    · exact ⟨w4, 0, rfl, k5.trans' h1 (fun _ _ e => e.elim) (fun i hi e => e.elim id (fun e => by omega)), hk6, .inl ⟨rest, h3, by rw [if_pos h2]⟩⟩
    · refine ⟨w4, k, rfl, k5.trans' h1 (fun _ _ e => e.elim) (fun i hi e => e.elim id (fun e => by omega)), hk6, ?_⟩
      rcases h2 with ⟨rest, h2, h3, rfl⟩ | h2
      · exact .inl ⟨rest, h3, by rw [if_neg h2]⟩
      · exact .inr h2
  have HFIN := Lib.hid hfin
  clear hfin h5 k6 hD hk5 k5 hrw hFs hr4 hq4 hp4 hz4 kb hW4 k4
  go_wp2
  go_ret
  exact HFIN.out
end Go.Proofs.Ytlajejbglpggeaa
