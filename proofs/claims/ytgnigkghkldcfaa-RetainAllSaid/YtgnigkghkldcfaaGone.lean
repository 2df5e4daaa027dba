/-
  retain.Gone: its iterator's contract: the places of those that aren't kept.
-/
import Derived.Test.YtgnigkghkldcfaaKeep1
import Derived.Test.YtgnigkghkldcfaaKeepLaws
import Derived.Test.YtgnigkghkldcfaaNames
import Derived.Test.YtgnigkghkldcfaaFrame

/-! retain.Gone: its iterator's contract: the places of those that aren't kept. -/
namespace Go.Proofs.Ytgnigkghkldcfaa
open Go.RowKit Go.Proofs Go.Lib Go.Maps Go.Sort Go.Shelf
attribute [local go_sem] Oper.semAt_some

theorem goneF_any (a : Option Addr) (n c : Nat) (p : PolR) (w : World) : Calls Try.prog 99 #[.slice a n c, .agg (polCells p)] w fun e w' =>
    e = .returned (.func (.func 121) #[] #[.pointer (some ⟨w.heap.size, 0, none⟩), .pointer (some ⟨w.heap.size + 1, 0, none⟩)]) ∧ w' = (w.alloc (.cells #[.slice a n c] 93)).alloc (.cells (polCells p) 95) := by
  have hmf : ∀ (fn : Fn) (first cap : Array Value) (w : World), (Instr.makeFunc fn first cap).run Try.prog w = .ok (.func fn first cap) w := fun _ _ _ _ => rfl
  obtain ⟨last, days, day, within, tag⟩ := p
  unfold polCells strV
  go_enter Try.func99, Try.ntmps99
  go_wp2
  go_ret
  exact ⟨rfl, rfl⟩

abbrev encI (i : Nat) : Array Value := #[.int .i64 i]
def goneTo (B : List Bool) (k : Nat) : List Nat := (List.range k).filter (fun i => !B[i]!)
theorem goneTo_step {B : List Bool} {k : Nat} {b : Bool} (h : B[k]? = some b) : goneTo B (k + 1) = goneTo B k ++ (if b then [] else [k]) := by
  unfold goneTo
  have e : B[k]! = b := by rw [List.getElem!_eq_getElem?_getD, h]; rfl
  rw [List.range_succ, List.filter_append]
  congr 1
  rw [List.filter_cons, e]
  cases b <;> rfl
theorem goneTo_pre {B : List Bool} {k : Nat} (h : k ≤ B.length) : goneTo B k <+: goneL B := by
  obtain ⟨d, hd⟩ : ∃ d, B.length = k + d := ⟨B.length - k, by omega⟩
  unfold goneL goneTo
  rw [hd]
  clear h hd
  induction d with
  | zero => exact List.prefix_refl _
  | succ d ih =>
    refine ih.trans ?_
    rw [show k + (d + 1) = (k + d) + 1 from rfl, List.range_succ, List.filter_append]
    exact List.prefix_append _ _

set_option maxRecDepth 100000 in
set_option maxHeartbeats 4000000 in
theorem gone1_iter (n : Nat) {bx bp : Nat} {v : Value} {L : List SnapR} {p : PolR} {P : List Nat} {D : List Int} (W : World) (hL : SnapsAt W v L) (h32 : Snaps32 L) (ht : ∀ s ∈ L, In64 s.time) (h40 : L.length < 40) (hlast : In64 p.last) (hdays : In64 p.days) (hwi : In64 p.within)
    (hP : Places L P) (hD : DaysOf L p.day D) (hbx : W.heap[bx]? = some (.cells #[v] 93 (0, 0))) (hbp : W.heap[bp]? = some (.cells (polCells p) 95 (0, 0))) :
    IterAt Try.prog n 121 #[.pointer (some ⟨bx, 0, none⟩), .pointer (some ⟨bp, 0, none⟩)] encI (goneL (keepB L P p D)) (fun _ => False) W := by
  intro l J Jx hJ0 hY
  obtain ⟨va, vc, rfl⟩ : ∃ a c, v = .slice a L.length c := let ⟨_, a, c, e, _⟩ := hL; ⟨a, c, e⟩
  have hpl := load_box (P := Try.prog) hbp Try.underlying95 rfl (by rw [infoPolicy]; rfl)
  have c1 : W.cell? ⟨bx, 0, none⟩ = some (.slice va L.length vc) := by rw [cell_blk hbx]; rfl
  have HK := keep_any hL h32 ht h40 hlast hdays hwi
  obtain ⟨pc, hpc⟩ : ∃ pc, pc = polCells p := ⟨_, rfl⟩
  rw [← hpc] at hpl HK
  have HPL := Lib.hid hpl; have HKK := Lib.hid HK
  obtain ⟨N, hN⟩ : ∃ N, N = L.length := ⟨_, rfl⟩
  rw [← hN] at HKK c1
  have HN := Lib.hid hN; have HP := Lib.hid hP; have HD := Lib.hid hD; have HJ0 := Lib.hid hJ0; have HY := Lib.hid hY
  have n40 : N < 40 := by omega
  clear hpl HK hL h32 ht hP hD hbx hbp hN hJ0 hY hlast hdays hwi hpc h40
  refine callsIn_of_wp Try.func121 rfl trivial ?_ rfl
  simp only [Try.ntmps121, List.size_toArray, List.length_cons, List.length_nil, Nat.reduceAdd, Nat.reduceSub, Array.replicate_succ, Array.replicate_zero, List.push_toArray, List.append_toArray, List.nil_append, List.cons_append]
  gi_wp2_with (refine in_load_run rfl 95 (.tmp 2) rfl _ rfl _ HPL.out ?_)
  refine ⟨trivial, fun h => by simp [Fence.wide] at h, ?_⟩
  refine (callsIn_wide.2 HKK.out).mono ?_
  rintro e w2 ⟨g, c, P', D', rfl, hg, hk, hP', hD', hb⟩
  obtain rfl := hP'.eq HP.out
  obtain rfl := hD'.eq HD.out
  obtain ⟨B, hB⟩ : ∃ B, B = keepB L P' p D' := ⟨_, rfl⟩
  have hb' : w2.heap[g]? = some (.cells (B.map Value.bool).toArray 4 (0, 0)) := by rw [hB]; exact hb
  have hBl : B.length = N := by rw [hB, keepB_len, HN.out]
  rw [← hB] at HY
  have HBE := Lib.hid hB
  have hJ := HJ0.out w2 (fun k => k = g) hk.toBelow (fun k hk => by subst hk; exact ⟨hg, lt_blk hb'⟩)
  have HBB := Lib.hid hb'; have HBL := Lib.hid hBl
  clear hk hP' hD' hb hb' hB hBl c1 hg
  gi_wp2
  gi_loopw [10] (fun v10 wr => ∃ k : Nat, v10 = .int .i64 k ∧ k ≤ N ∧ J (fun k => k = g) (goneTo B k) wr ∧ wr.heap[g]? = w2.heap[g]?) (fun v10 _ => N - (intOf v10).toNat)
  case atStart => exact ⟨0, rfl, Nat.zero_le _, hJ, rfl⟩
  case round =>
    obtain ⟨k, rfl, hk, hJr, hBr⟩ := hrel
    by_cases hlt : k < N
    · obtain ⟨b, hb⟩ : ∃ b, B[k]? = some b := ⟨_, List.getElem?_eq_getElem (by rw [HBL.out]; exact hlt)⟩
      have hcell : wr.cell? ⟨g, k, none⟩ = some (.bool b) := by
        rw [cell_blk (hBr.trans HBB.out), List.getElem?_toArray, List.getElem?_map, hb]; rfl
      have hstep := goneTo_step hb
      have k1 : (0 : Int) ≤ k := by omega
      have k2 : (k : Int) < N := by omega
      cases b
      · simp only [Bool.false_eq_true, if_false] at hstep
        obtain ⟨fn, tmps, assign, body, hy, hR⟩ := HY.out (fun k => k = g) (goneTo B k) k wr hJr (by rw [← hstep]; exact goneTo_pre (by rw [HBL.out]; omega))
        dsimp only [encI] at hy
        have HT := Lib.hid hstep; have HR := Lib.hid hR; have HBR := Lib.hid hBr
        clear hstep hBr hJr hb hR hJ
        gi_wp2
        refine ⟨fun h => by simp [Fence.wide] at h, ?_⟩
        refine HR.out.mono ?_
        rintro e W3 (⟨rfl, hJ3, hk3⟩ | ⟨rfl, hx3⟩)
        · gi_wp2
          go_roundw
          case rel => exact ⟨k + 1, by go_num, by omega, by rw [HT.out]; exact hJ3, (hk3.2 g (.inl rfl)).trans HBR.out⟩
          case measure => simp [intOf]; omega
        · gi_wp2
          refine bodyPost_ret (results_none rfl _ _ _) rfl ?_
          exact ⟨⟨_, rfl⟩, .inr ⟨_, by rw [← HT.out, ← HBE.out]; exact goneTo_pre (by rw [HBL.out]; omega), hx3⟩⟩
      · simp only [if_true, List.append_nil] at hstep
        have HT := Lib.hid hstep; have HBR := Lib.hid hBr; have HJR := Lib.hid hJr
        clear hstep hBr hJr hb hJ
        gi_wp2
        refine ⟨fun f hf => (by cases hf), ?_⟩
        gi_wp2
        go_roundw
        case rel => exact ⟨k + 1, by go_num, by omega, by rw [HT.out]; exact HJR.out, HBR.out⟩
        case measure => simp [intOf]; omega
    · have hkN : k = N := by omega
      have HK := Lib.hid hkN; have HJR := Lib.hid hJr
      clear hkN hJr hJ
      gi_wp2
      go_end0
      refine ⟨⟨_, rfl⟩, .inl ⟨fun k => k = g, ?_⟩⟩
      have e1 : goneTo B k = goneL (keepB L P' p D') := by rw [← HBE.out]; unfold goneTo goneL; rw [HK.out, ← HBL.out]
      rw [← e1]
      exact HJR.out
end Go.Proofs.Ytgnigkghkldcfaa

/-! coldstorelaw19.gone: up to so many places of those that aren't kept. -/
namespace Go.Proofs.Ytgnigkghkldcfaa
open Go.RowKit Go.Proofs Go.Lib Go.Maps Go.Sort Go.Shelf
attribute [local go_sem] Oper.semAt_some

/-- between two rounds -/
structure GoneI (B z : Nat) (w3 : World) (most : Int) (Pv : Nat → Prop) (pre : List Nat) (W : World) (x : Value) : Prop where
  keep : Keep (fun k => k = B + 3 ∨ k = B + 4) w3 W
  bx : W.heap[B + 4]? = some (.cells #[x] 45 (0, 0))
  rx : W.ownsRow 0 3 1 x pre.length (natsV pre)
  lx : ∀ g, vblk x = some g → (g = B + 3 ∨ z + 2 ≤ g) ∧ ¬ Pv g
  less : (pre.length : Int) < most
/-- where a round returns -/
structure GoneX (B z : Nat) (w3 : World) (most : Int) (pre : List Nat) (W : World) (x : Value) : Prop where
  keep : Keep (fun k => k = B + 2 ∨ k = B + 3 ∨ k = B + 4) w3 W
  bx : W.heap[B + 2]? = some (.cells #[x] 45 (0, 0))
  rx : W.ownsRow 0 3 1 x pre.length (natsV pre)
  lx : ∀ g, vblk x = some g → g = B + 3 ∨ z + 2 ≤ g
  all : (pre.length : Int) = most

/-- 'out = append(out, x)', out in a box: what is behind it (the box may lie above the row). -/
theorem coll_step2 {W W1 : World} {B : Nat} {t e : TypeId} {k n' : Nat} {v : Value} {ys : List Value} {o : Obj} {g cap : Nat} (hbox : W.heap[B]? = some (.cells #[v] t (0, 0))) (hne : ∀ j, vblk v = some j → j ≠ B) 
    (hg : (W.alloc o).grownBy W1 v.ownBlock) (hown' : W1.ownsRow 0 e k (.slice (some ⟨g, 0, none⟩) n' cap) n' ys) (hloc : v.ownBlock = some g ∨ g = (W.alloc o).heap.size) :
    W1.heap[B]? = some (.cells #[v] t (0, 0)) ∧ Keep (fun i => vblk v = some i) W W1 ∧
    (W1.setCell ⟨B, 0, none⟩ (.slice (some ⟨g, 0, none⟩) n' cap)).heap[B]? = some (.cells #[.slice (some ⟨g, 0, none⟩) n' cap] t (0, 0)) ∧
    (W1.setCell ⟨B, 0, none⟩ (.slice (some ⟨g, 0, none⟩) n' cap)).ownsRow 0 e k (.slice (some ⟨g, 0, none⟩) n' cap) n' ys ∧
    Keep (fun i => i = B ∨ vblk v = some i) W (W1.setCell ⟨B, 0, none⟩ (.slice (some ⟨g, 0, none⟩) n' cap)) ∧ (vblk v = some g ∨ W.heap.size ≤ g) := by
  have hkk : Keep (fun i => vblk v = some i) W W1 := ((Keep.refl _ W).alloc o).trans' (Keep.of_grownBy hg) (fun _ _ e => e) (fun i _ e => ownBlock_vblk e)
  have hb1 : W1.heap[B]? = some (.cells #[v] t (0, 0)) := hkk.heap hbox (fun e => hne _ e rfl)
  have hgB : vblk v = some g ∨ W.heap.size ≤ g := by
    rcases hloc with h | h
    · exact .inl (ownBlock_vblk h)
    · right; rw [h]; simp
  have hk2 : Keep (fun i => i = B) W1 (W1.setCell ⟨B, 0, none⟩ (.slice (some ⟨g, 0, none⟩) n' cap)) := (Keep.refl (fun i => i = B) W1).setCell (p := ⟨B, 0, none⟩) (fun _ => rfl) _
  refine ⟨hb1, hkk, by rw [set_blk hb1]; simp, own_keep hown' hk2 (fun g' e1 e2 => ?_), (hkk.mono (fun _ _ e => .inr e)).setCell (p := ⟨B, 0, none⟩) (fun _ => .inl rfl) _, hgB⟩
  simp only [vblk, Option.some.injEq] at e1
  subst e1
  rcases hgB with h | h
  · exact hne _ h e2
  · have := lt_blk' hbox; omega

theorem info_int2 : (Try.prog.info? 3).map (fun i => (i.zero, i.size, i.bytes)) = some (some (.int .i64 0), 1, 8) := by kernel_rfl
/-- what coldstorelaw19.gone comes to -/
def GonePost (L : List SnapR) (P : List Nat) (p : PolR) (D : List Int) (most : Int) (w : World) (e : Ending) (w' : World) : Prop :=
  ∃ r c, e = .returned (.slice r ((goneL (keepB L P p D)).take most.toNat).length c) ∧ Sl w' 1 (.slice r ((goneL (keepB L P p D)).take most.toNat).length c) ((goneL (keepB L P p D)).take most.toNat).length (natsV ((goneL (keepB L P p D)).take most.toNat)) ∧ Keep (fun _ => False) w w'

set_option maxRecDepth 100000 in
set_option maxHeartbeats 4000000 in
theorem gone_any {w : World} {v : Value} {L : List SnapR} {p : PolR} {P : List Nat} {D : List Int} {most : Int} (hL : SnapsAt w v L) (h32 : Snaps32 L) (ht : ∀ s ∈ L, In64 s.time) (h40 : L.length < 40) (hlast : In64 p.last) (hdays : In64 p.days) (hwi : In64 p.within)
    (hP : Places L P) (hD : DaysOf L p.day D) (hm : 0 < most) (hm2 : most ≤ 4000000000000000000) :
    Calls Try.prog 59 #[v, .agg (polCells p), .int .i64 most] w (GonePost L P p D most w) := by
  obtain ⟨va, vc, rfl⟩ : ∃ a c, v = .slice a L.length c := let ⟨_, a, c, e, _⟩ := hL; ⟨a, c, e⟩
  obtain ⟨w3, hw3⟩ : ∃ w3, (((((((w.alloc (.cells (polCells p) 95)).alloc (.cells #[.int .i64 most] 3)).alloc (.cells #[.slice none 0 0] 45)).alloc (.cells #[] 3)).alloc (.cells #[.slice (some ⟨w.heap.size + 1 + 1 + 1, 0, none⟩) 0 0] 45)).alloc (.cells #[.slice va L.length vc] 93)).alloc (.cells (polCells p) 95)) = w3 := ⟨_, rfl⟩
  have k3 : Keep (fun _ => False) w w3 := by rw [← hw3]; exact (((((((Keep.refl _ w).alloc _).alloc _).alloc _).alloc _).alloc _).alloc _).alloc _
  have z3 : w3.heap.size = w.heap.size + 7 := by rw [← hw3]; simp
  have b1 : w3.heap[w.heap.size + 1]? = some (.cells #[.int .i64 most] 3 (0, 0)) := by rw [← hw3]; repeat' first | exact alloc_at (by simp) _ | refine alloc_blk ?_ _
  have b2 : w3.heap[w.heap.size + 2]? = some (.cells #[.slice none 0 0] 45 (0, 0)) := by rw [← hw3]; repeat' first | exact alloc_at (by simp) _ | refine alloc_blk ?_ _
  have b3 : w3.heap[w.heap.size + 3]? = some (.cells #[] 3 (0, 0)) := by rw [← hw3]; repeat' first | exact alloc_at (by simp) _ | refine alloc_blk ?_ _
  have b4 : w3.heap[w.heap.size + 4]? = some (.cells #[.slice (some ⟨w.heap.size + 1 + 1 + 1, 0, none⟩) 0 0] 45 (0, 0)) := by rw [← hw3]; repeat' first | exact alloc_at (by simp) _ | refine alloc_blk ?_ _
  have b5 : w3.heap[w.heap.size + 5]? = some (.cells #[.slice va L.length vc] 93 (0, 0)) := by rw [← hw3]; repeat' first | exact alloc_at (by simp) _ | refine alloc_blk ?_ _
  have b6 : w3.heap[w.heap.size + 6]? = some (.cells (polCells p) 95 (0, 0)) := by rw [← hw3]; repeat' first | exact alloc_at (by simp) _ | refine alloc_blk ?_ _
  have HIT := Lib.hid (fun (W : World) (hb : Below w3.heap.size w3 W) => gone1_iter 8 (bx := w.heap.size + 5) (bp := w.heap.size + 6) (v := .slice va L.length vc) W (hL.keep (k3.trans (Keep.of_below hb _)) (fun _ _ e => e)) h32 ht h40 hlast hdays hwi hP hD ((hb.block _ (by omega)).trans b5) ((hb.block _ (by omega)).trans b6))
  have HGF := Lib.hid (fun (W : World) => goneF_any va L.length vc p W)
  have hglen : (goneL (keepB L P p D)).length < 40 := by
    unfold goneL
    have := List.length_filter_le (fun i => !(keepB L P p D)[i]!) (List.range (keepB L P p D).length)
    have h2 : (List.range (keepB L P p D).length).length = L.length := by rw [List.length_range, keepB_len]
    omega
  unfold GonePost
  obtain ⟨X, hX⟩ : ∃ X, X = goneL (keepB L P p D) := ⟨_, rfl⟩
  rw [← hX] at HIT hglen ⊢
  obtain ⟨n, hn⟩ : ∃ n, n = L.length := ⟨_, rfl⟩
  rw [← hn] at HGF hw3 ⊢
  obtain ⟨pc, hpc⟩ : ∃ pc, pc = polCells p := ⟨_, rfl⟩
  obtain ⟨p0, p1, p2, p3, p4⟩ := p
  unfold polCells strV at hw3 HGF ⊢
  dsimp only at hw3 HGF ⊢
  have HB1 := Lib.hid b1; have HB2 := Lib.hid b2; have HB3 := Lib.hid b3; have HB4 := Lib.hid b4; have HK3 := Lib.hid k3; have HZ3 := Lib.hid z3
  clear hL h32 ht h40 hlast hdays hwi hP hD k3 b1 b2 b3 b4 b5 b6 hn hX hpc z3
  refine (callsIn_wide (n := 9)).1 ?_
  refine callsIn_of_wp_marks Try.func59 rfl trivial ?_ rfl
  simp only [Try.ntmps59, List.size_toArray, List.length_cons, List.length_nil, Nat.reduceAdd, Nat.reduceSub, Array.replicate_succ, Array.replicate_zero, List.push_toArray, List.append_toArray, List.nil_append, List.cons_append]
  gi_wp2_with fail
  refine ⟨trivial, ?_⟩
  refine (callsIn_wide.2 (HGF.out _)).mono ?_
  rintro e w2 ⟨rfl, rfl⟩
  rw [hw3]
  clear hw3
  gi_wp2_with fail
  simp only [Nat.add_assoc, Nat.reduceAdd]
  refine wp_range (n := 9) (gf := 121) (lb := #[.pointer (some ⟨w.heap.size + 5, 0, none⟩), .pointer (some ⟨w.heap.size + 6, 0, none⟩)]) (encs := encI) (xs := X) (Qb := fun _ => False) rfl (fun _ _ => rfl) (fun _ h => h.elim)
      (fun W hb => HIT.out W hb) (fun _ => rfl)
      (fun Pv pre W => ∃ x, GoneI w.heap.size w3.heap.size w3 most Pv pre W x)
      (fun c pre W => c = .ret ∧ ∃ x, GoneX w.heap.size w3.heap.size w3 most pre W x) ?i0 ?ip ?ixp
      (fun x => { tmps := #[.slice va n vc, .agg #[.int .i64 p0, .int .i64 p1, .int .i64 p2, .int .i64 p3, .string ⟨p4.toArray⟩], .int .i64 most, undef, .pointer (some ⟨w.heap.size, 0, none⟩), .pointer (some ⟨w.heap.size + 1, 0, none⟩), .pointer (some ⟨w.heap.size + 2, 0, none⟩), .pointer (some ⟨w.heap.size + 4, 0, none⟩), .int .i64 x,
          .slice (some ⟨w.heap.size + 3, 0, none⟩) 0 0, .int .i64 most, .bool (decide (most ≤ 0)), undef, .slice va n vc, .agg #[.int .i64 p0, .int .i64 p1, .int .i64 p2, .int .i64 p3, .string ⟨p4.toArray⟩], .func (.func 121) #[] #[.pointer (some ⟨w.heap.size + 5, 0, none⟩), .pointer (some ⟨w.heap.size + 6, 0, none⟩)], .int .i64 x,
          undef, undef, undef, undef, undef, undef, undef, undef, undef, undef], defers := [] }) ?assign ?body ?done ?stop
  case assign =>
    intro l x W K hK
    gi_wp2
    exact hK
  case i0 =>
    intro W Pv hb hPv
    have hs := HZ3.out
    refine ⟨_, Keep.of_below hb _, (hb.block _ (by omega)).trans HB4.out, ?_, ?_, by simpa using hm⟩
    · exact ⟨rfl, .inr ⟨_, 0, #[], rfl, Nat.zero_le _, (hb.block _ (by omega)).trans HB3.out, Nat.le_refl _, Nat.zero_le _, rfl, rfl⟩⟩
    · intro g e
      simp only [vblk, Option.some.injEq] at e
      subst e
      exact ⟨.inl rfl, fun hp => by have := hPv _ hp; omega⟩
  case ip =>
    rintro Pv pre W r o' ⟨x, J⟩ hl
    have hs := HZ3.out
    have hk : Keep (· = w3.heap.size + 1) W (W.putObj (w3.heap.size + 1) o') := ⟨rfl, rfl, rfl, by rw [World.putObj_size]; exact Nat.le_refl _, fun k _ hn => World.putObj_heap_other (fun e => hn e)⟩
    refine ⟨x, J.keep.trans' hk (fun _ _ e => e) (fun i hi e => by omega), hk.heap J.bx (by omega), own_keep J.rx hk (fun g e e2 => ?_), J.lx, J.less⟩
    have := (J.lx g e).1; omega
  case ixp =>
    rintro c pre W r o' ⟨rfl, x, J⟩ hl
    have hs := HZ3.out
    have hk : Keep (· = w3.heap.size + 1) W (W.putObj (w3.heap.size + 1) o') := ⟨rfl, rfl, rfl, by rw [World.putObj_size]; exact Nat.le_refl _, fun k _ hn => World.putObj_heap_other (fun e => hn e)⟩
    refine ⟨rfl, x, J.keep.trans' hk (fun _ _ e => e) (fun i hi e => by omega), hk.heap J.bx (by omega), own_keep J.rx hk (fun g e e2 => ?_), J.lx, J.all⟩
    have := (J.lx g e); omega
  case body =>
    rintro l Pv pre x W rfl ⟨vx, J⟩ hpre ⟨r, hl⟩ hD hP
    have hs := HZ3.out
    have hzW : w3.heap.size + 2 ≤ W.heap.size := by have := lt_blk hl; omega
    obtain ⟨a4, c4, rfl⟩ := own_slice J.rx
    have cB := cell_blk J.bx 0
    have fB := frozen_blk J.bx 0
    have c1 := cell_blk (J.keep.heap HB1.out (by omega)) 0
    have c2 := cell_blk (J.keep.heap HB2.out (by omega)) 0
    have f2 := frozen_blk (J.keep.heap HB2.out (by omega)) 0
    simp at cB c1 c2
    have hlen : pre.length + 1 < 41 := by
      have := hpre.length_le
      simp at this; omega
    have hne : ∀ j, vblk (Value.slice a4 pre.length c4) = some j → j ≠ w.heap.size + 4 := fun j e => by have := (J.lx j e).1; omega
    obtain ⟨i0, hi, hz0, hzz1, hz2⟩ := info_parts info_int2
    have HJ := Lib.hid J; have HL := Lib.hid hl; have HPR := Lib.hid hpre; have HPV := Lib.hid hP; have HDD := Lib.hid hD; have HS := Lib.hid hs
    have hrx := J.rx; have hbx := J.bx
    clear J hl hpre hP hD hs
    have hnv : natsV (pre ++ [x]) = natsV pre ++ [.int .i64 x] := by simp [natsV]
    have hln : (pre ++ [x]).length = pre.length + 1 := by simp
    have HNV := Lib.hid hnv; have HLN := Lib.hid hln
    clear hnv hln
    by_cases hlast : (pre.length : Int) + 1 = most
    · have hb : ((pre.length : Int) + 1 == most) = true := by simpa using hlast
      have HLA := Lib.hid hlast
      clear hlast
      gi_wp2_with (gi_at_builtin; go_loud (refine wpListIn_append_row _ rfl _ _ 45 rfl 0 3 i0 (.int .i64 0) 1 8 Try.underlying45 hi hz0 hzz1 hz2 rfl (by decide) _ _ _ rfl (own_keep hrx ((Keep.refl (fun _ => False) W).alloc _) (fun _ _ e => e)) ⟨W.heap.size, 0, none⟩ 1 1 [.int .i64 x] rfl rfl (cell_one_new _ _ _) (by simp [Value.oneCell']) (by unfold maxLen; omega) (by omega) (Nat.zero_le _) (by decide) ?_); intro g cap w4 hown' hgrow hloc; have hst := coll_step2 hbx hne hgrow hown' hloc; have cB4 := cell_blk hst.1 0; have fB4 := frozen_blk hst.1 0; simp at cB4; have b1' := hst.2.1.heap (HJ.out.keep.heap HB1.out (by have := HZ3.out; omega)) (fun e => by have := (HJ.out.lx _ e).1; have := HZ3.out; omega); have b2' := hst.2.1.heap (HJ.out.keep.heap HB2.out (by have := HZ3.out; omega)) (fun e => by have := (HJ.out.lx _ e).1; have := HZ3.out; omega); have c1' := cell_blk b1' 0; have c2' := cell_blk b2' 0; have f2' := frozen_blk b2' 0; simp at c1' c2'; have HB2' := Lib.hid b2'; clear b1' b2'; have HST := Lib.hid hst; clear hst hown' hgrow hloc)
      obtain ⟨h1, h2, h3, h4, h5, h6⟩ := HST.out
      have hgp : ∀ g', vblk (.slice (some ⟨g, 0, none⟩) (pre.length + 1) cap) = some g' → g' = w.heap.size + 3 ∨ w3.heap.size + 2 ≤ g' := fun g' e => by
        simp only [vblk, Option.some.injEq] at e
        subst e
        rcases h6 with e | e
        · exact (HJ.out.lx _ e).1
        · exact .inr (by omega)
      have hk2 : Keep (fun k => k = w.heap.size + 2) _ _ := (Keep.refl (fun k => k = w.heap.size + 2) (w4.setCell ⟨w.heap.size + 4, 0, none⟩ (.slice (some ⟨g, 0, none⟩) (pre.length + 1) cap))).setCell (p := ⟨w.heap.size + 2, 0, none⟩) (fun _ => rfl) (.slice (some ⟨g, 0, none⟩) (pre.length + 1) cap)
      have z3 := HZ3.out
      have b2'' : (w4.setCell ⟨w.heap.size + 4, 0, none⟩ (.slice (some ⟨g, 0, none⟩) (pre.length + 1) cap)).heap[w.heap.size + 2]? = some (.cells #[.slice none 0 0] 45 (0, 0)) := set_other HB2'.out (by simp) _
      have hkW := h5.trans' hk2 (H := fun i => (i = w.heap.size + 4 ∨ vblk (Value.slice a4 pre.length c4) = some i) ∨ i = w.heap.size + 2) (fun _ _ e => .inl e) (fun _ _ e => .inr e)
      refine ⟨KeepB.of_keep hkW ?_, rfl, _, HJ.out.keep.trans' hkW (fun _ _ e => .inr e) ?_, ?_, own_keep (by rw [HLN.out, HNV.out]; exact h4) hk2 ?_, hgp, by rw [HLN.out]; exact_mod_cast HLA.out⟩
      · rintro k (rfl | rfl | e | e)
        · refine ⟨by omega, fun e => ?_⟩
          rcases e with (e | e) | e
          · omega
          · have := (HJ.out.lx _ e).1; omega
          · omega
        · refine ⟨by omega, fun e => ?_⟩
          rcases e with (e | e) | e
          · omega
          · have := (HJ.out.lx _ e).1; omega
          · omega
        · have h7 := HPV.out k e
          refine ⟨h7.2, fun e2 => ?_⟩
          rcases e2 with (e2 | e2) | e2
          · omega
          · exact (HJ.out.lx _ e2).2 e
          · omega
        · exact e.elim
      · rintro i hi ((e | e) | e)
        · exact .inr (.inr e)
        · have := (HJ.out.lx _ e).1
          rcases this with e2 | e2
          · exact .inr (.inl e2)
          · omega
        · exact .inl e
      · rw [set_blk b2'']; simp
      · intro g' e e2
        have := hgp g' e
        omega
    · have hb : ((pre.length : Int) + 1 == most) = false := by simpa using hlast
      have HLA := Lib.hid hlast
      clear hlast
      gi_wp2_with (gi_at_builtin; go_loud (refine wpListIn_append_row _ rfl _ _ 45 rfl 0 3 i0 (.int .i64 0) 1 8 Try.underlying45 hi hz0 hzz1 hz2 rfl (by decide) _ _ _ rfl (own_keep hrx ((Keep.refl (fun _ => False) W).alloc _) (fun _ _ e => e)) ⟨W.heap.size, 0, none⟩ 1 1 [.int .i64 x] rfl rfl (cell_one_new _ _ _) (by simp [Value.oneCell']) (by unfold maxLen; omega) (by omega) (Nat.zero_le _) (by decide) ?_); intro g cap w4 hown' hgrow hloc; have hst := coll_step2 hbx hne hgrow hown' hloc; have cB4 := cell_blk hst.1 0; have fB4 := frozen_blk hst.1 0; simp at cB4; have b1' := hst.2.1.heap (HJ.out.keep.heap HB1.out (by have := HZ3.out; omega)) (fun e => by have := (HJ.out.lx _ e).1; have := HZ3.out; omega); have b2' := hst.2.1.heap (HJ.out.keep.heap HB2.out (by have := HZ3.out; omega)) (fun e => by have := (HJ.out.lx _ e).1; have := HZ3.out; omega); have c1' := cell_blk b1' 0; have c2' := cell_blk b2' 0; have f2' := frozen_blk b2' 0; simp at c1' c2'; have HB2' := Lib.hid b2'; clear b1' b2'; have HST := Lib.hid hst; clear hst hown' hgrow hloc)
      obtain ⟨h1, h2, h3, h4, h5, h6⟩ := HST.out
      have z3 := HZ3.out
      refine ⟨KeepB.of_keep h5 ?_, _, HJ.out.keep.trans' h5 (fun _ _ e => e) ?_, h3, by rw [HLN.out, HNV.out]; exact h4, fun g' e => ?_, by rw [HLN.out]; have := HJ.out.less; have := HLA.out; omega⟩
      · rintro k (rfl | rfl | e | e)
        · refine ⟨by omega, fun e => ?_⟩
          rcases e with e | e
          · omega
          · have := (HJ.out.lx _ e).1; omega
        · refine ⟨by omega, fun e => ?_⟩
          rcases e with e | e
          · omega
          · have := (HJ.out.lx _ e).1; omega
        · have h7 := HPV.out k e
          refine ⟨h7.2, fun e2 => ?_⟩
          rcases e2 with e2 | e2
          · omega
          · exact (HJ.out.lx _ e2).2 e
        · exact e.elim
      · rintro i hi (e | e)
        · exact .inr e
        · have := (HJ.out.lx _ e).1
          rcases this with e2 | e2
          · exact .inl e2
          · omega
      · simp only [vblk, Option.some.injEq] at e
        subst e
        rcases h6 with e | e
        · exact HJ.out.lx _ e
        · exact ⟨.inr (by omega), fun hp => by have := HPV.out _ hp; omega⟩
  case done =>
    rintro Pv W ⟨vx, J⟩ hD
    obtain ⟨a4, c4, rfl⟩ := own_slice J.rx
    have z3 := HZ3.out
    have cB := cell_blk J.bx 0
    have h2 := J.keep.heap HB2.out (by omega)
    have c2 := cell_blk h2 0
    have f2 := frozen_blk h2 0
    simp at cB c2
    have hp : X.take most.toNat = X := List.take_of_length_le (by have := J.less; omega)
    have hk2 : Keep (fun k => k = w.heap.size + 2) W (W.setCell ⟨w.heap.size + 2, 0, none⟩ (.slice a4 X.length c4)) := (Keep.refl (fun k => k = w.heap.size + 2) W).setCell (p := ⟨w.heap.size + 2, 0, none⟩) (fun _ => rfl) _
    have HK2 := Lib.hid hk2; have HJ := Lib.hid J; have HDD := Lib.hid hD; have HH2 := Lib.hid h2; have HPP := Lib.hid hp; have Z3 := Lib.hid z3
    clear hk2 J hD h2 hp z3
    gi_wp2
    refine ⟨by simp, .inl ⟨_, _, rfl, run_takeDeferred (HK2.out.heap HDD.out (by have := Z3.out; omega)), ?_⟩⟩
    have hk3 : Keep (fun k => k = w3.heap.size) (W.setCell ⟨w.heap.size + 2, 0, none⟩ (.slice a4 X.length c4)) ((W.setCell ⟨w.heap.size + 2, 0, none⟩ (.slice a4 X.length c4)).putObj w3.heap.size (.deferred none)) := ⟨rfl, rfl, rfl, by rw [World.putObj_size]; exact Nat.le_refl _, fun k _ hn => World.putObj_heap_other (fun e => hn e)⟩
    have z3 := Z3.out
    have hb : ((W.setCell ⟨w.heap.size + 2, 0, none⟩ (.slice a4 X.length c4)).putObj w3.heap.size (.deferred none)).heap[w.heap.size + 2]? = some (.cells #[.slice a4 X.length c4] 45 (0, 0)) := hk3.heap (by rw [set_blk HH2.out]; simp) (by omega)
    have hc := cell_blk hb 0
    simp at hc
    refine ⟨_, by simp [results, Try.results59, go_sem, hc]; rfl, a4, c4, by rw [HPP.out], ?_, ?_⟩
    · rw [HPP.out]
      exact sl_own (own_keep (own_keep HJ.out.rx HK2.out (fun g e e2 => by have := (HJ.out.lx g e).1; omega)) hk3 (fun g e e2 => by have := (HJ.out.lx g e).1; omega))
    · have h5 := (HJ.out.keep.trans' HK2.out (H := fun k => w.heap.size ≤ k) (fun i hi e => by omega) (fun i hi e => by omega)).trans' hk3 (H := fun k => w.heap.size ≤ k) (fun _ _ e => e) (fun i hi e => by omega)
      exact HK3.out.trans' h5 (fun _ _ e => e) (fun i hi e => by omega)
  case stop =>
    rintro c pre W hpre ⟨rfl, vx, J⟩ hD
    obtain ⟨a4, c4, rfl⟩ := own_slice J.rx
    have hp : pre = X.take most.toNat := by
      have := J.all
      rw [show most.toNat = pre.length from by omega]
      exact List.prefix_iff_eq_take.1 hpre
    have z3 := HZ3.out
    have hk3 : Keep (fun k => k = w3.heap.size) W (W.putObj w3.heap.size (.deferred none)) := ⟨rfl, rfl, rfl, by rw [World.putObj_size]; exact Nat.le_refl _, fun k _ hn => World.putObj_heap_other (fun e => hn e)⟩
    have hc := cell_blk (hk3.heap J.bx (by omega)) 0
    simp at hc
    have h5 := J.keep.trans' hk3 (H := fun k => w.heap.size ≤ k) (fun i hi e => by omega) (fun i hi e => by omega)
    have HF := Lib.hid (show (∃ r c, Ending.returned (.slice a4 pre.length c4) = .returned (.slice r (X.take most.toNat).length c) ∧ Sl (W.putObj w3.heap.size (.deferred none)) 1 (.slice r (X.take most.toNat).length c) (X.take most.toNat).length (natsV (X.take most.toNat)) ∧ Keep (fun _ => False) w (W.putObj w3.heap.size (.deferred none))) from by
      rw [← hp]
      exact ⟨a4, c4, rfl, sl_own (own_keep J.rx hk3 (fun g e e2 => by have := J.lx g e; omega)), HK3.out.trans' h5 (fun _ _ e => e) (fun i hi e => by omega)⟩)
    have HC := Lib.hid hc
    clear J hp hk3 hc h5 z3
    gi_wp2_with fail
    refine ⟨by simp, .inl ⟨_, _, rfl, run_takeDeferred hD, ?_⟩⟩
    have hc := HC.out
    refine ⟨_, by simp [results, Try.results59, go_sem, hc], HF.out⟩
end Go.Proofs.Ytgnigkghkldcfaa
