/-
  coldstorelaw06.ObjectPlays: true, of all quotas, fuses, faults and steps.
-/
import Derived.Test.YtgnigkghkldcfaaPlays1
import Derived.Test.YtgnigkghkldcfaaSameL

/-! coldstorelaw06.ObjectPlays: true, of all quotas, fuses, faults and steps. -/
namespace Go.Proofs.Ytgnigkghkldcfaa
open Go.RowKit Go.Proofs Go.Lib

theorem mask7 (n : Int) : ∃ k : Nat, bits .and .i64 n 7 = (k : Int) ∧ k ≤ 7 := by
  refine ⟨(BitVec.ofInt 64 n &&& BitVec.ofInt 64 7).toNat, ?_, ?_⟩
  · have h : (BitVec.ofInt 64 n &&& BitVec.ofInt 64 7).toNat ≤ 7 := by
      rw [BitVec.toNat_and]
      exact Nat.le_trans Nat.and_le_right (by decide)
    show IntKind.i64.wrap ((BitVec.ofInt 64 n &&& BitVec.ofInt 64 7).toNat : Int) = _
    rw [IntKind.wrap_i64]
    omega
  · rw [BitVec.toNat_and]
    exact Nat.le_trans Nat.and_le_right (by decide)

theorem names_all {w : World} {sb : Nat} {f : Value} {S : Nat → Prop} {s : OS} (h : St w sb f S s) (k : Nat) (hk : k ≤ 7) :
    Calls Try.prog 26 #[.pointer (some ⟨sb, 0, none⟩), .int .i64 k] w (NamesPost s k w) := by
  by_cases h0 : k = 0
  · subst h0; exact names_none (sb := sb) (s := s) 0 (by decide)
  · exact names_any h k (by omega) (by omega)

theorem pj_start {w w6 : World} {sb fb ps : Nat} {S : Nat → Prop} {s : OS} {fa : Option Addr} {fc : Nat} (h : St w6 sb (.pointer (some ⟨fb, 0, none⟩)) S s) (hr : s.row = []) (ho : s.ops = 0) (hf : Sl w 1 (.slice fa s.faults.length fc) s.faults.length (s.faults.map .bool))
    (hb : w6.heap[ps]? = some (.cells #[.pointer (some ⟨sb, 0, none⟩)] 26 (0, 0))) (hl : ∀ x, S x → w.heap.size ≤ x) (hns : ¬ S ps) (hps : w.heap.size ≤ ps) (hk : Keep (fun _ => False) w w6) :
    PJ w sb fb ps w6.heap.size S (fun x => x < w.heap.size) s none 0 0 s.quota 0 s.left fa s.faults.length fc (w6.alloc (.cells #[.slice none 0 0, .int .i64 s.quota, .int .i64 0, .int .i64 s.left, .slice fa s.faults.length fc] 35)) := by
  have ka : Keep (fun _ => False) w6 (w6.alloc (.cells #[.slice none 0 0, .int .i64 s.quota, .int .i64 0, .int .i64 s.left, .slice fa s.faults.length fc] 35)) := (Keep.refl _ _).alloc _
  have hkk := hk.trans ka
  refine ⟨h.keep0 ka, ⟨.slice none 0 0, .slice fa s.faults.length fc, [], by rw [← ho]; rfl, ⟨⟨Sl.nil _ _, fun _ h => (nomatch h)⟩, hr.symm, .inl rfl, Sl.keep hf hkk (fun _ _ _ e => e), fun _ h => absurd h (Nat.lt_irrefl _), fun _ h => (nomatch h), fun b h1 h2 => Sl.lt hf (by decide) h1 h2⟩⟩, alloc_new _ _, ka.heap hb id, fun x e => ⟨fun e2 => by have := hl x e2; omega, Nat.lt_of_lt_of_le e hkk.size⟩, fun x e => e, hl, ⟨fun e => by have := h.lt _ e; omega, fun e => by have := hk.size; omega⟩, hns, hk.size, hps, hkk⟩

theorem PJ.rn {w : World} {sb fb ps px : Nat} {S RS : Nat → Prop} {s : OS} {ra : Option Addr} {rn rc : Nat} {q o l : Int} {fa : Option Addr} {fn fc : Nat} {W : World} (j : PJ w sb fb ps px S RS s ra rn rc q o l fa fn fc W) : rn = s.row.length := by
  obtain ⟨ra', rn', rc', fa', fc', L, e, h1, h2⟩ := j.rf.agg
  unfold refV at e
  injection e with e
  have := congrArg (fun a : Array Value => a[0]?) e
  simp at this
  rw [this.2.1, h1, ← h2.is, List.length_map]

set_option maxRecDepth 100000 in
set_option maxHeartbeats 8000000 in
theorem plays_short {w : World} {v : Value} {L : List (Op6 × Value)} (hO : OpsAt w v L) (hf : fewB (L.map (·.1)) = true) (quota fuse most : Int) (hq : 0 ≤ quota ∧ quota ≤ 9223372036854775807) (hfu : -9223372036854775808 ≤ fuse ∧ fuse ≤ 9223372036854775807)
    {fv : Value} {fl : List Bool} (hfl : Sl w 1 fv fl.length (fl.map .bool)) (hfl60 : fl.length ≤ 60) :
    Calls Try.prog 3 #[.int .i64 quota, .int .i64 fuse, fv, v, .int .i64 most] w fun e w' => e = .returned (.bool true) ∧ Keep (fun _ => False) w w' := by
  obtain ⟨va, vc, rfl⟩ : ∃ p k, v = .slice p L.length k := let ⟨_, p, k, e, _⟩ := hO.row; ⟨p, k, e⟩
  obtain ⟨fa, fc, rfl⟩ : ∃ p k, fv = .slice p fl.length k := let ⟨_, p, k, e, _⟩ := hfl; ⟨p, k, e⟩
  have HO := Lib.hid hO; have HFL := Lib.hid hfl
  have HF := Lib.hid hf; clear hf hO hfl
  have hq0 : ¬ quota < 0 := by omega
  have hfl' : (fl.length : Int) ≤ 60 := by omega
  obtain ⟨hq1, hq2⟩ := hq
  obtain ⟨hf1, hf2⟩ := hfu
  go_enter Try.func3, Try.ntmps3
  go_wp2_with fail
  refine (alive_any w).mono ?_
  rintro e w1 ⟨rfl, k1⟩
  go_wp2_with fail
  refine (few_any (HO.out.keep k1 (fun _ _ e => e))).mono ?_
  rintro e w2 ⟨rfl, k2⟩
  rw [HF.out]
  go_wp2_with fail
  refine (new_any quota _ hq1 hq2).mono ?_
  rintro e w3 ⟨sb, rfl, hs3, k3⟩
  have k13 := (k1.trans k2).trans k3
  have ka := (Keep.refl (fun _ => False) w3).alloc (.cells #[.pointer (some ⟨sb, 0, none⟩)] 26)
  have hs4 := hs3.keep0 ka
  have hb4 := alloc_new w3 (.cells #[.pointer (some ⟨sb, 0, none⟩)] 26)
  have k14 := k13.trans ka
  have hz4 : (w3.alloc (.cells #[.pointer (some ⟨sb, 0, none⟩)] 26)).heap.size = w3.heap.size + 1 := by simp
  obtain ⟨w4, hw4⟩ : ∃ w4, w4 = w3.alloc (.cells #[.pointer (some ⟨sb, 0, none⟩)] 26) := ⟨_, rfl⟩
  rw [← hw4] at hs4 hb4 k14 hz4
  have HW4 := Lib.hid hw4
  have hS3 : ∀ x, (w2.heap.size ≤ x ∧ x < w3.heap.size) → w.heap.size ≤ x := fun x e => by have := (k1.trans k2).size; omega
  obtain ⟨S3, eS3⟩ : ∃ S : Nat → Prop, S = fun b => w2.heap.size ≤ b ∧ b < w3.heap.size := ⟨_, rfl⟩
  have hps3 : ¬ S3 w3.heap.size := by rw [eS3]; intro e; omega
  have hlow3 : ∀ x, S3 x → w.heap.size ≤ x := by rw [eS3]; exact hS3
  rw [← eS3] at hs4
  have hpp : w.heap.size ≤ w3.heap.size := k13.size
  obtain ⟨ps, hps⟩ : ∃ ps, ps = w3.heap.size := ⟨_, rfl⟩
  rw [← hps] at hb4 hps3 hpp hz4
  have HPS := Lib.hid hps
  clear hs3 ka hw4 eS3 hS3 k1 k2 k3 k13 hps
  go_wp2_with fail
  rw [← HW4.out, ← HPS.out]
  refine (newFuse_any fuse _ hf1 hf2).mono ?_
  rintro e w5 ⟨rfl, hF5, k5⟩
  have hs5 := hs4.keep0 k5
  have hb5 := k5.heap hb4 id
  have cb5 := cell_blk hb5 0
  simp at cb5
  have hFL5 : Sl w5 1 (.slice fa fl.length fc) fl.length (fl.map .bool) := Sl.keep HFL.out (k14.trans k5) (fun _ _ _ e => e)
  have HB5 := Lib.hid hb5
  have k15 := k14.trans k5
  have hfb : ¬ S3 w4.heap.size := fun e => by have := hs4.lt _ e; omega
  have hfp : w4.heap.size ≠ ps := by omega
  have hfw : w.heap.size ≤ w4.heap.size := k14.size
  obtain ⟨fb, hfbe⟩ : ∃ fb, fb = w4.heap.size := ⟨_, rfl⟩
  rw [← hfbe] at hF5 hfb hfp hfw ⊢
  clear hb5 hb4 hs4 k14 k5 hz4 hfbe
  go_wp2_with fail
  refine (arm_any hs5 (.pointer (some ⟨fb, 0, none⟩)) _ (.inr ⟨_, rfl, hF5⟩) _ fl hFL5 (by omega)).mono ?_
  rintro e w6 ⟨S6, rfl, hs6, k6, hg6⟩
  have hsb : S3 sb := hs5.self
  have hb6 := k6.heap HB5.out (fun e => hps3 (by rw [e]; exact hsb))
  have hsz6 := hs6.lt
  have hk6 : Keep (fun _ => False) w w6 := k15.trans' k6 (fun _ _ e => e) (fun k hk e => by have := hlow3 sb hsb; omega)
  have J := pj_start (w := w) (s := (OS.new quota).arm (max fuse (-1)) fl) (fa := fa) (fc := fc) hs6 rfl rfl HFL.out hb6 (fun x e => by
    rcases hg6 _ e with h | h | h
    · exact hlow3 x h
    · simp [vblk] at h; omega
    · have := k15.size; omega) (fun e => by
    rcases hg6 _ e with h | h | h
    · exact hps3 h
    · simp [vblk] at h; exact hfp h
    · have := lt_blk HB5.out; omega) hpp hk6
  have hn6 : Nums 0 ((OS.new quota).arm (max fuse (-1)) fl) := ⟨Int.le_refl _, Nat.le_refl _, by show -1 ≤ max fuse (-1) ∧ max fuse (-1) ≤ _; omega⟩
  obtain ⟨s6, es6⟩ : ∃ s, s = (OS.new quota).arm (max fuse (-1)) fl := ⟨_, rfl⟩
  obtain ⟨px, hpx⟩ : ∃ px, px = w6.heap.size := ⟨_, rfl⟩
  have e1 : ((OS.new quota).arm (max fuse (-1)) fl).quota = quota := rfl
  have e2 : ((OS.new quota).arm (max fuse (-1)) fl).left = max fuse (-1) := rfl
  have e3 : ((OS.new quota).arm (max fuse (-1)) fl).faults = fl := rfl
  rw [e1, e2, e3] at J
  rw [← es6] at J hn6
  obtain ⟨w7, hw7⟩ : ∃ w7, w7 = w6.alloc (.cells #[.slice none 0 0, .int .i64 quota, .int .i64 0, .int .i64 (max fuse (-1)), .slice fa fl.length fc] 35) := ⟨_, rfl⟩
  rw [← hw7, ← hpx] at J
  have HW7 := Lib.hid hw7
  have HPX := Lib.hid hpx
  have HN6 := Lib.hid hn6
  clear hs5 cb5 hFL5 HB5 k15 hfw hfp hfb hF5 hs6 k6 hg6 hsb hsz6 es6 hpx hps3 hlow3 hw7 e1 e2 e3 hk6 hn6
  obtain ⟨N, hN⟩ : ∃ N : Nat, N = L.length := ⟨_, rfl⟩
  have HN := Lib.hid hN
  have hN60 : N ≤ 60 := by
    have := HF.out
    unfold fewB at this
    simp at this
    omega
  rw [← hN]
  clear hN
  have HPP := Lib.hid hpp; clear hpp
  have cb6 := cell_blk hb6 0
  simp at cb6
  clear hb6
  have hmf : ∀ (fn : Fn) (first cap : Array Value) (w : World), (Instr.makeFunc fn first cap).run Try.prog w = .ok (.func fn first cap) w := fun _ _ _ _ => rfl
  have HJ := Lib.hid J; clear J
  go_wp2
  rw [← HPX.out, ← HW7.out]
  go_loopg [64] N (fun g v64 wr => ∃ (i : Nat) (S RS : Nat → Prop) (s : OS) (ra : Option Addr) (rn rc : Nat) (q o l : Int) (fa : Option Addr) (fn fc : Nat), i ≤ N ∧ g = N - i ∧ v64 = .int .i64 i ∧ PJ w sb fb ps px S RS s ra rn rc q o l fa fn fc wr ∧ Nums i s)
  case atStart => exact ⟨0, S6, _, s6, _, _, _, _, _, _, _, _, _, Nat.zero_le _, rfl, rfl, HJ.out, HN6.out⟩
  case round =>
    obtain ⟨i, S, RS, s, ra, rn, rc, q, o', l, fa', fn', fc', hi, hg, rfl, j, hn⟩ := hrel
    clear HJ HN6 cb6
    by_cases hlt : i < N
    · obtain ⟨o, ho⟩ : ∃ o, L[i]? = some o := ⟨_, List.getElem?_eq_getElem (by rw [← HN.out]; exact hlt)⟩
      have hOr := HO.out.keep j.keep (fun _ _ e => e)
      obtain ⟨vb, vo, vc', ev, v1, v2⟩ := Sl.base HO.out.row (by rw [← HN.out]; omega)
      cases ev
      obtain ⟨c0, c1, c2⟩ := hOr.cells ho
      have hpb0 := HO.out.bytes o (List.mem_of_getElem? ho)
      have hps' : shortOp o.1 = true := by
        have := HF.out
        unfold fewB at this
        rw [Bool.and_eq_true] at this
        exact List.all_eq_true.1 this.1 _ (List.mem_map.2 ⟨_, List.mem_of_getElem? ho, rfl⟩)
      obtain ⟨⟨kind, name, bs⟩, bv⟩ := o
      obtain ⟨ba, bc, rfl⟩ : ∃ a c, bv = .slice a bs.length c := let ⟨_, a, c, e, _⟩ := hpb0; ⟨a, c, e⟩
      simp only [strV] at c1
      unfold shortOp at hps'
      simp at hps'
      rw [← HN.out] at v1
      unfold maxLen at v2
      have HG := Lib.hid hg
      have ka := ((Keep.refl (fun _ => False) wr).alloc (.cells #[.int .i64 kind, .string ⟨name.toArray⟩, .slice ba bs.length bc] 38)).alloc (.cells #[.bool true] 4)
      have j1 := j.still ka
      have hb1 : PBox wr.heap.size ps px (wr.heap.size + 1) sb #[.slice ra rn rc, .int .i64 q, .int .i64 o', .int .i64 l, .slice fa' fn' fc'] kind name ba bs.length bc ((wr.alloc (.cells #[.int .i64 kind, .string ⟨name.toArray⟩, .slice ba bs.length bc] 38)).alloc (.cells #[.bool true] 4)) := by
        refine ⟨alloc_blk (alloc_new _ _) _, j1.bs, j1.bx, ?_⟩
        have := alloc_new (wr.alloc (.cells #[.int .i64 kind, .string ⟨name.toArray⟩, .slice ba bs.length bc] 38)) (.cells #[.bool true] 4)
        rw [World.size_alloc] at this
        exact this
      have hlow : w.heap.size ≤ wr.heap.size := j.keep.size
      have hSlt := j.st.lt
      have hRlt := j.dis
      have HP1 := Lib.hid (show ¬ S (wr.heap.size + 1) ∧ ¬ RS (wr.heap.size + 1) from ⟨fun e => by have := hSlt _ e; omega, fun e => by have := (hRlt _ e).2; omega⟩)
      have HP2 := Lib.hid (show w.heap.size ≤ wr.heap.size + 1 by omega)
      have hi60 : i ≤ 60 := by omega
      have HB1 := Lib.hid hb1
      have HJ1 := Lib.hid j1
      have HNI := Lib.hid hn
      have HS1 := Lib.hid hps'.1; have HS2 := Lib.hid hps'.2
      have HPB := Lib.hid hpb0
      obtain ⟨⟨a0, a1, a2, a3, a4⟩, -⟩ := five_cells j1.bx
      clear hg hOr ho j hps' hpb0 hb1 j1 ka hSlt hRlt hn
      have hk : s.left ≠ 0 ∨ (s.left = 0 ∧ kind < 0) ∨ (s.left = 0 ∧ 4 < kind ∧ 0 ≤ kind) ∨ (s.left = 0 ∧ 0 ≤ kind ∧ kind ≤ 4) := by omega
      rcases hk with hk | ⟨hl, hk⟩ | ⟨hl, hk, hk2⟩ | ⟨hl, hk, hk2⟩
      case' inl => have hl0 : (s.left == 0) = false := by simpa using hk
      case' inl => have hdec : decide (s.left = 0 ∧ 0 ≤ kind ∧ kind ≤ 4) = false := decide_eq_false (fun e => hk e.1)
      case' inr.inl => have hl0 : (s.left == 0) = true := by simpa using hl
      case' inr.inl => have hdec : decide (s.left = 0 ∧ 0 ≤ kind ∧ kind ≤ 4) = false := decide_eq_false (fun e => by omega)
      case' inr.inr.inl => have hl0 : (s.left == 0) = true := by simpa using hl
      case' inr.inr.inl => have hdec : decide (s.left = 0 ∧ 0 ≤ kind ∧ kind ≤ 4) = false := decide_eq_false (fun e => by omega)
      case' inr.inr.inr => have hl0 : (s.left == 0) = true := by simpa using hl
      case' inr.inr.inr => have hdec : decide (s.left = 0 ∧ 0 ≤ kind ∧ kind ≤ 4) = true := decide_eq_true ⟨hl, hk, hk2⟩
      all_goals have HDEC := Lib.hid hdec
      all_goals clear hdec
      all_goals try clear hl
      all_goals go_wp2_with fail
      all_goals refine (blows_any HJ1.out.rf).mono ?_
      all_goals rintro e W2 ⟨rfl, kb⟩
      all_goals rw [hl0]
      all_goals clear hl0
      all_goals have j2 := HJ1.out.still kb
      all_goals have hb2 := HB1.out.keep kb
      all_goals have HC := plays_catch j2 hb2 HPB.out HS1.out HS2.out HNI.out hi60 HP1.out HP2.out
      all_goals rw [HDEC.out] at HC
      all_goals have HC := Lib.hid HC
      all_goals have b0 : W2.cell? ⟨wr.heap.size, 0, none⟩ = some (.int .i64 kind) := by rw [cell_blk hb2.bo]; rfl
      all_goals clear j2 hb2 kb a0 a1 a2 a3 a4 c0 c1 c2
      all_goals go_wp2_with fail
      all_goals refine HC.out.mono ?_
      all_goals rintro e W3 ⟨S2, RS2, s2, ra2, rn2, rc2, q2, o2, l2, fa2, fn2, fc2, rfl, j3, hg3, hn3⟩
      all_goals obtain ⟨⟨a0, a1, a2, a3, a4⟩, -⟩ := five_cells j3.bx
      all_goals have g0 : W3.cell? ⟨wr.heap.size + 1, 0, none⟩ = some (.bool true) := by rw [cell_blk hg3]; rfl
      all_goals have s0 : W3.cell? ⟨ps, 0, none⟩ = some (.pointer (some ⟨sb, 0, none⟩)) := by rw [cell_blk j3.bs]; rfl
      all_goals have HJ3 := Lib.hid j3
      all_goals have HN3 := Lib.hid hn3
      all_goals clear HJ1 HB1 HP1 HP2 HC HNI HPB j3 hn3 hg3 b0
      all_goals go_wp2_with fail
      all_goals refine (same6_any HJ3.out.st HJ3.out.rf (by have := HN3.out.row; omega)).mono ?_
      all_goals rintro e W4 ⟨rfl, k4⟩
      all_goals have HJ4 := Lib.hid (HJ3.out.still k4)
      all_goals clear k4 a0 a1 a2 a3 a4 g0 s0
      all_goals go_wp2
      all_goals go_roundg (N - (i + 1))
      all_goals first | (have := HG.out; omega) | exact ⟨i + 1, _, _, _, _, _, _, _, _, _, _, _, _, by omega, rfl, by go_num, HJ4.out, HN3.out⟩
    · have hiN : i = N := by omega
      subst hiN
      obtain ⟨k, hk, hk7⟩ := mask7 most
      have cbs : wr.cell? ⟨ps, 0, none⟩ = some (.pointer (some ⟨sb, 0, none⟩)) := by rw [cell_blk j.bs]; rfl
      have HJ := Lib.hid j
      have HRN := Lib.hid j.rn
      clear hg hlt hi j
      go_wp2_with fail
      refine (names_all HJ.out.st k hk7).mono ?_
      rintro e W1 ⟨x, y, rfl, hx, hy, -, -, k1⟩
      have hlen : ((s.some k).map (·.1)).length = min k rn := by
        have := HRN.out
        simp only [OS.some, OS.list, List.length_map, List.length_take, Int.toNat_natCast]
        omega
      obtain ⟨xa, xc, rfl⟩ : ∃ a c, x = .slice a ((s.some k).map (·.1)).length c := let ⟨_, a, c, e, _⟩ := hx; ⟨a, c, e⟩
      rw [hlen]
      have j2 := HJ.out.still k1
      obtain ⟨⟨a0, a1, a2, a3, a4⟩, -⟩ := five_cells j2.bx
      have HJ2 := Lib.hid j2
      clear hx hy hlen j2 k1 cbs
      have hrn60 : rn ≤ 60 := by have := HRN.out; have := hn.row; omega
      have hmin : min (k : Int) (rn : Int) = ((min k rn : Nat) : Int) := by omega
      go_wp2
      go_ret
      exact ⟨by simp, HJ2.out.keep⟩
end Go.Proofs.Ytgnigkghkldcfaa

/-! coldstorelaw06.ObjectPlays: true, whatever the quota, and however many steps and faults. -/
namespace Go.Proofs.Ytgnigkghkldcfaa
open Go.RowKit Go.Proofs Go.Lib

set_option maxRecDepth 100000 in
set_option maxHeartbeats 4000000 in
theorem plays_long {w : World} {v : Value} {L : List (Op6 × Value)} (hO : OpsAt w v L) (quota fuse most : Int) (fa : Option Addr) (fn fc : Nat) (h : fewB (L.map (·.1)) = false ∨ ¬ fn ≤ 60 ∨ quota < 0) :
    Calls Try.prog 3 #[.int .i64 quota, .int .i64 fuse, .slice fa fn fc, v, .int .i64 most] w fun e w' => e = .returned (.bool true) ∧ Keep (fun _ => False) w w' := by
  have HO := Lib.hid hO
  obtain ⟨va, vc, rfl⟩ : ∃ p k, v = .slice p L.length k := let ⟨_, p, k, e, _⟩ := hO.row; ⟨p, k, e⟩
  clear hO
  obtain ⟨f, hf⟩ : ∃ f, fewB (L.map (·.1)) = f := ⟨_, rfl⟩
  rw [hf] at h
  have HF := Lib.hid hf; clear hf
  cases f
  · clear h
    go_enter Try.func3, Try.ntmps3
    go_wp2_with fail
    refine (alive_any w).mono ?_
    rintro e w1 ⟨rfl, k1⟩
    go_wp2_with fail
    refine (few_any (HO.out.keep k1 (fun _ _ e => e))).mono ?_
    rintro e w2 ⟨rfl, k2⟩
    rw [HF.out]
    go_wp2
    go_ret
    exact ⟨rfl, k1.trans k2⟩
  · by_cases hn : (fn : Int) ≤ 60
    · have hq : quota < 0 := by
        rcases h with h | h | h
        · cases h
        · omega
        · exact h
      clear h
      go_enter Try.func3, Try.ntmps3
      go_wp2_with fail
      refine (alive_any w).mono ?_
      rintro e w1 ⟨rfl, k1⟩
      go_wp2_with fail
      refine (few_any (HO.out.keep k1 (fun _ _ e => e))).mono ?_
      rintro e w2 ⟨rfl, k2⟩
      rw [HF.out]
      go_wp2_with fail
      refine (new_arg quota w2 hq).mono ?_
      rintro e w3 ⟨rfl, rfl⟩
      go_wp2
      go_ret
      exact ⟨rfl, (k1.trans k2).alloc _⟩
    · clear h
      go_enter Try.func3, Try.ntmps3
      go_wp2_with fail
      refine (alive_any w).mono ?_
      rintro e w1 ⟨rfl, k1⟩
      go_wp2_with fail
      refine (few_any (HO.out.keep k1 (fun _ _ e => e))).mono ?_
      rintro e w2 ⟨rfl, k2⟩
      rw [HF.out]
      go_wp2
      go_ret
      exact ⟨rfl, k1.trans k2⟩

theorem plays_any {w : World} {v fv : Value} {L : List (Op6 × Value)} {fl : List Bool} (quota : Int) (hq : -9223372036854775808 ≤ quota ∧ quota ≤ 9223372036854775807) (fuse : Int) (hfu : -9223372036854775808 ≤ fuse ∧ fuse ≤ 9223372036854775807)
    (hfl : Sl w 1 fv fl.length (fl.map .bool)) (hO : OpsAt w v L) (_hk : ∀ p ∈ L, -9223372036854775808 ≤ p.1.kind ∧ p.1.kind ≤ 9223372036854775807) (most : Int) (_hm : -9223372036854775808 ≤ most ∧ most ≤ 9223372036854775807) :
    Calls Try.prog 3 #[.int .i64 quota, .int .i64 fuse, fv, v, .int .i64 most] w fun e w' => e = .returned (.bool true) ∧ Keep (fun _ => False) w w' := by
  by_cases h : fewB (L.map (·.1)) = true ∧ fl.length ≤ 60 ∧ 0 ≤ quota
  · exact plays_short hO h.1 quota fuse most ⟨h.2.2, hq.2⟩ hfu hfl h.2.1
  · obtain ⟨fa, fc, rfl⟩ : ∃ p k, fv = .slice p fl.length k := let ⟨_, p, k, e, _⟩ := hfl; ⟨p, k, e⟩
    refine plays_long hO quota fuse most fa _ fc ?_
    by_cases hf : fewB (L.map (·.1)) = true
    · by_cases hn : fl.length ≤ 60
      · exact .inr (.inr (by have : ¬ 0 ≤ quota := fun e => h ⟨hf, hn, e⟩; omega))
      · exact .inr (.inl hn)
    · exact .inl (by simpa using hf)
end Go.Proofs.Ytgnigkghkldcfaa
