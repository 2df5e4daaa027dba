/-
  coldstorelaw06.ObjectPlays: a step under the fuse, caught.
-/
import Derived.Test.YtgnigkghkldcfaaStep6f
import Derived.Test.YtgnigkghkldcfaaCatch

/-! coldstorelaw06.ObjectPlays: a step under the fuse, caught. -/
namespace Go.Proofs.Ytgnigkghkldcfaa
open Go.RowKit Go.Proofs Go.Lib

/-- the boxes that the closure has -/
structure PBox (po ps px pg sb : Nat) (cs : Array Value) (kind : Int) (name : Bs) (ba : Option Addr) (bn bc : Nat) (W : World) : Prop where
  bo : W.heap[po]? = some (.cells #[.int .i64 kind, .string ⟨name.toArray⟩, .slice ba bn bc] 38 (0, 0))
  bs : W.heap[ps]? = some (.cells #[.pointer (some ⟨sb, 0, none⟩)] 26 (0, 0))
  bx : W.heap[px]? = some (.cells cs 35 (0, 0))
  bg : W.heap[pg]? = some (.cells #[.bool true] 4 (0, 0))
theorem PBox.keep {po ps px pg sb : Nat} {cs : Array Value} {kind : Int} {name : Bs} {ba : Option Addr} {bn bc : Nat} {W W' : World} (h : PBox po ps px pg sb cs kind name ba bn bc W) (hk : Keep (fun _ => False) W W') : PBox po ps px pg sb cs kind name ba bn bc W' :=
  ⟨hk.heap h.bo id, hk.heap h.bs id, hk.heap h.bx id, hk.heap h.bg id⟩

def Plays1 (sb : Nat) (f : Value) (S RS : Nat → Prop) (s' : OS) (px pg : Nat) (W W' : World) : Prop :=
  ∃ (S' RS' : Nat → Prop) (ra : Option Addr) (rn rc : Nat) (q o l : Int) (fa : Option Addr) (fn fc : Nat), St W' sb f S' s' ∧ Rf W' (.agg #[.slice ra rn rc, .int .i64 q, .int .i64 o, .int .i64 l, .slice fa fn fc]) RS' s' ∧
    W'.heap[px]? = some (.cells #[.slice ra rn rc, .int .i64 q, .int .i64 o, .int .i64 l, .slice fa fn fc] 35 (0, 0)) ∧ W'.heap[pg]? = some (.cells #[.bool true] 4 (0, 0)) ∧
    (∀ x, RS' x → ¬ S' x ∧ x < W'.heap.size) ∧ (∀ x, S' x → S x ∨ W.heap.size ≤ x) ∧ (∀ x, RS x → RS' x) ∧ (∀ x, RS' x → RS x ∨ W.heap.size ≤ x) ∧ Keep (fun x => S x ∨ x = px ∨ x = pg) W W'

section
variable {W : World} {sb fb po ps px pg : Nat} {S RS : Nat → Prop} {s : OS} {kind : Int} {name : Bs} {ba : Option Addr} {bn bc : Nat} {b : Bs} {ra : Option Addr} {rn rc : Nat} {q o l : Int} {fa : Option Addr} {fn fc : Nat}
    (hs : St W sb (.pointer (some ⟨fb, 0, none⟩)) S s) (hr : Rf W (.agg #[.slice ra rn rc, .int .i64 q, .int .i64 o, .int .i64 l, .slice fa fn fc]) RS s) (hd : ∀ x, RS x → ¬ S x ∧ x < W.heap.size) (hb : BytesAt W (.slice ba bn bc) b) (hbr : ∀ x, 0 < b.length → vblk (.slice ba bn bc) = some x → RS x)
    (hp : PBox po ps px pg sb #[.slice ra rn rc, .int .i64 q, .int .i64 o, .int .i64 l, .slice fa fn fc] kind name ba bn bc W) (hbl : b.length ≤ 200)
include hs hr hd hb hbr hp hbl

set_option maxRecDepth 100000 in
theorem plays1_blow (hl : s.left = 0) (hk : 0 ≤ kind ∧ kind ≤ 4) :
    Calls Try.prog 23 #[.pointer (some ⟨ps, 0, none⟩), .pointer (some ⟨px, 0, none⟩), .pointer (some ⟨po, 0, none⟩), .pointer (some ⟨pg, 0, none⟩)] W fun e w' => e = .panicked (blowChain fb) ∧ Keep (fun _ => False) W w' := by
  obtain ⟨⟨a0, a1, a2, a3, a4⟩, -⟩ := five_cells hp.bx
  have c0 : W.cell? ⟨po, 0, none⟩ = some (.int .i64 kind) := by rw [cell_blk hp.bo]; rfl
  have c1 : W.cell? ⟨po, 1, none⟩ = some (.string ⟨name.toArray⟩) := by rw [cell_blk hp.bo]; rfl
  have c2 : W.cell? ⟨po, 2, none⟩ = some (.slice ba bn bc) := by rw [cell_blk hp.bo]; rfl
  have c3 : W.cell? ⟨ps, 0, none⟩ = some (.pointer (some ⟨sb, 0, none⟩)) := by rw [cell_blk hp.bs]; rfl
  have HC := Lib.hid (step_blow (kind := kind) (name := name) hs hr hd hb hbr hl hk hbl)
  clear hs hr hd hb hbr hp
  go_enter Try.func23, Try.ntmps23
  go_wp2_with fail
  refine HC.out.mono ?_
  rintro e w' ⟨rfl, hk⟩
  exact ⟨rfl, rfl, hk⟩

set_option maxRecDepth 100000 in
set_option maxHeartbeats 2000000 in
theorem plays1_go (hl : s.left ≠ 0 ∨ ¬ (0 ≤ kind ∧ kind ≤ 4)) (ho : s.ops < 4611686018427387904) (hl1 : -1 ≤ s.left ∧ s.left ≤ 9223372036854775807) (hn : name.length ≤ 100) (hno : ∀ x, x = px ∨ x = pg → ¬ S x ∧ ¬ RS x) (hpg : px ≠ pg) :
    Calls Try.prog 23 #[.pointer (some ⟨ps, 0, none⟩), .pointer (some ⟨px, 0, none⟩), .pointer (some ⟨po, 0, none⟩), .pointer (some ⟨pg, 0, none⟩)] W fun e w' => e = .returned (.tuple #[]) ∧ Plays1 sb (.pointer (some ⟨fb, 0, none⟩)) S RS (s.step ⟨kind, name, b⟩) px pg W w' := by
  obtain ⟨⟨a0, a1, a2, a3, a4⟩, -⟩ := five_cells hp.bx
  have c0 : W.cell? ⟨po, 0, none⟩ = some (.int .i64 kind) := by rw [cell_blk hp.bo]; rfl
  have c1 : W.cell? ⟨po, 1, none⟩ = some (.string ⟨name.toArray⟩) := by rw [cell_blk hp.bo]; rfl
  have c2 : W.cell? ⟨po, 2, none⟩ = some (.slice ba bn bc) := by rw [cell_blk hp.bo]; rfl
  have c3 : W.cell? ⟨ps, 0, none⟩ = some (.pointer (some ⟨sb, 0, none⟩)) := by rw [cell_blk hp.bs]; rfl
  have HC := Lib.hid (step_any (kind := kind) (name := name) hs hr hd hb hbr hl hl1 ho hn hbl)
  have HP := Lib.hid hp
  have hpl := lt_blk hp.bx
  have hgl := lt_blk hp.bg
  have HPL := Lib.hid hpl; have HGL := Lib.hid hgl; have HNO := Lib.hid hno; have HPG := Lib.hid hpg
  clear hs hr hd hb hbr hp hpl hgl hno hl hpg
  go_enter Try.func23, Try.ntmps23
  go_wp2_with fail
  refine HC.out.mono ?_
  rintro e W1 ⟨S', RS', v', rfl, h1, h2, h3, h4, h5, h6, h7⟩
  obtain ⟨ra2, rn2, rc2, q2, o2, l2, fa2, fn2, fc2, rfl⟩ := h2.lit
  have hx1 := h7.heap HP.out.bx (fun e => (HNO.out px (.inl rfl)).1 e)
  have hg1 := h7.heap HP.out.bg (fun e => (HNO.out pg (.inr rfl)).1 e)
  have nS : ∀ x, x = px ∨ x = pg → ¬ S' x := fun x e h => (h4 x h).elim (HNO.out x e).1 (fun h => by have := HPL.out; have := HGL.out; rcases e with e | e <;> omega)
  have nR : ∀ x, x = px ∨ x = pg → ¬ RS' x := fun x e h => (h6 x h).elim (HNO.out x e).2 (fun h => by have := HPL.out; have := HGL.out; rcases e with e | e <;> omega)
  have fin : ∀ W9, W9.heap[px]? = some (.cells #[.slice ra2 rn2 rc2, .int .i64 q2, .int .i64 o2, .int .i64 l2, .slice fa2 fn2 fc2] 35 (0, 0)) → W9.heap[pg]? = some (.cells #[.bool true] 4 (0, 0)) → Keep (fun x => x = px ∨ x = pg) W1 W9 → Plays1 sb (.pointer (some ⟨fb, 0, none⟩)) S RS (s.step ⟨kind, name, b⟩) px pg W W9 := fun W9 hx hg hk =>
    ⟨S', RS', _, _, _, _, _, _, _, _, _, h1.keep hk nS, h2.keep hk (fun x e => nR x e), hx, hg, fun x e => ⟨(h3 x e).1, Nat.lt_of_lt_of_le (h3 x e).2 hk.size⟩, h4, h5, h6, h7.trans' hk (fun _ _ e => .inl e) (fun _ _ e => .inr e)⟩
  have HFIN := Lib.hid fin; have HX1 := Lib.hid hx1; have HG1 := Lib.hid hg1
  clear h1 h2 h3 h4 h5 h6 h7 fin hx1 hg1 nS nR
  go_wp2_with (first | (refine wpList_store_box rfl 35 (.tmp 1) (.tmp 9) rfl px #[.slice ra2 rn2 rc2, .int .i64 q2, .int .i64 o2, .int .i64 l2, .slice fa2 fn2 fc2] (by rfl) (by rfl) HX1.out (by kernel_rfl) rfl (five_one _ _ _ _ _ _ _ _ _) ?_; intro W9 hA9 kA9; have hg9 : W9.heap[pg]? = some _ := kA9.heap HG1.out (fun e => HPG.out e.symm); have g0 := cell_blk hg9 0; have gf := frozen_blk hg9 0; simp at g0; have HA9 := Lib.hid hA9; have HG9 := Lib.hid hg9; have HK9 := Lib.hid kA9; clear hA9 kA9 hg9))
  go_end0
  refine ⟨rfl, HFIN.out _ ?_ ?_ ?_⟩
  · exact set_other HA9.out (p := ⟨pg, 0, none⟩) HPG.out _
  · rw [set_blk HG9.out 0]; rfl
  · exact ((HK9.out.mono (fun _ _ e => .inl e)).setCell (p := ⟨pg, 0, none⟩) (fun _ => .inr rfl) _)
end
end Go.Proofs.Ytgnigkghkldcfaa

/-! coldstorelaw06.ObjectPlays: a step caught. -/
namespace Go.Proofs.Ytgnigkghkldcfaa
open Go.RowKit Go.Proofs Go.Lib

/-- what a step does to the sizes -/
structure Nums (i : Nat) (s : OS) : Prop where
  ops : s.ops ≤ i
  row : s.row.length ≤ i
  left : -1 ≤ s.left ∧ s.left ≤ 9223372036854775807
theorem decF_in {n : Int} (h : -1 ≤ n ∧ n ≤ 9223372036854775807) : -1 ≤ decF n ∧ decF n ≤ 9223372036854775807 := by unfold decF; split <;> omega
theorem Nums.up {i : Nat} {s : OS} (h : Nums i s) : Nums (i + 1) s := ⟨by have := h.ops; push_cast; omega, by have := h.row; omega, h.left⟩
theorem Nums.op {i : Nat} {s : OS} (h : Nums i s) : Nums (i + 1) s.op := ⟨by have := h.ops; show s.ops + 1 ≤ _; push_cast; omega, Nat.le_succ_of_le h.row, decF_in h.left⟩
theorem Nums.step {i : Nat} {s : OS} (h : Nums i s) (o : Op6) : Nums (i + 1) (s.step o) := by
  have h1 := h.op
  unfold OS.step
  split
  · unfold OS.put
    split
    · refine ⟨h1.ops, ?_, h1.left⟩
      show (putK o.name o.b s.row).length ≤ i + 1
      unfold putK
      rw [length_insK]
      have := delK_le o.name s.row
      have := h.row
      omega
    · exact h1
  · split
    · unfold OS.drop
      split
      · refine ⟨h1.ops, ?_, h1.left⟩
        show (delK o.name s.row).length ≤ i + 1
        have := delK_le o.name s.row
        have := h.row
        omega
      · exact h1
    · split
      · exact h1
      · exact h.up

/-- the store, the reference's, their boxes -/
structure PJ (w : World) (sb fb ps px : Nat) (S RS : Nat → Prop) (s : OS) (ra : Option Addr) (rn rc : Nat) (q o l : Int) (fa : Option Addr) (fn fc : Nat) (W : World) : Prop where
  st : St W sb (.pointer (some ⟨fb, 0, none⟩)) S s
  rf : Rf W (.agg #[.slice ra rn rc, .int .i64 q, .int .i64 o, .int .i64 l, .slice fa fn fc]) RS s
  bx : W.heap[px]? = some (.cells #[.slice ra rn rc, .int .i64 q, .int .i64 o, .int .i64 l, .slice fa fn fc] 35 (0, 0))
  bs : W.heap[ps]? = some (.cells #[.pointer (some ⟨sb, 0, none⟩)] 26 (0, 0))
  dis : ∀ x, RS x → ¬ S x ∧ x < W.heap.size
  inp : ∀ x, x < w.heap.size → RS x
  low : ∀ x, S x → w.heap.size ≤ x
  nx : ¬ S px ∧ ¬ RS px
  ns : ¬ S ps
  px1 : w.heap.size ≤ px
  ps1 : w.heap.size ≤ ps
  keep : Keep (fun _ => False) w W
section
variable {w : World} {sb fb ps px : Nat} {S RS : Nat → Prop} {s : OS} {ra : Option Addr} {rn rc : Nat} {q o l : Int} {fa : Option Addr} {fn fc : Nat} {W W' : World}
theorem PJ.still (j : PJ w sb fb ps px S RS s ra rn rc q o l fa fn fc W) (hk : Keep (fun _ => False) W W') : PJ w sb fb ps px S RS s ra rn rc q o l fa fn fc W' :=
  ⟨j.st.keep0 hk, j.rf.keep0 hk, hk.heap j.bx id, hk.heap j.bs id, fun x e => ⟨(j.dis x e).1, Nat.lt_of_lt_of_le (j.dis x e).2 hk.size⟩, j.inp, j.low, j.nx, j.ns, j.px1, j.ps1, j.keep.trans hk⟩
end

set_option maxRecDepth 100000 in
theorem plays_catch {w W : World} {sb fb ps px po pg : Nat} {S RS : Nat → Prop} {s : OS} {ra : Option Addr} {rn rc : Nat} {q o l : Int} {fa : Option Addr} {fn fc : Nat} {kind : Int} {name b : Bs} {ba : Option Addr} {bn bc : Nat} {i : Nat}
    (j : PJ w sb fb ps px S RS s ra rn rc q o l fa fn fc W) (hp : PBox po ps px pg sb #[.slice ra rn rc, .int .i64 q, .int .i64 o, .int .i64 l, .slice fa fn fc] kind name ba bn bc W) (hb : BytesAt w (.slice ba bn bc) b) (hn : name.length ≤ 100) (hbl : b.length ≤ 200) (hs : Nums i s) (hi : i ≤ 60)
    (hpg : ¬ S pg ∧ ¬ RS pg) (hpg1 : w.heap.size ≤ pg) :
    Calls Try.prog 22 #[.pointer (some ⟨fb, 0, none⟩), .func (.func 23) #[] #[.pointer (some ⟨ps, 0, none⟩), .pointer (some ⟨px, 0, none⟩), .pointer (some ⟨po, 0, none⟩), .pointer (some ⟨pg, 0, none⟩)]] W fun e W2 =>
      ∃ (S2 RS2 : Nat → Prop) (s2 : OS) (ra : Option Addr) (rn rc : Nat) (q o l : Int) (fa : Option Addr) (fn fc : Nat), e = .returned (.bool (decide (s.left = 0 ∧ 0 ≤ kind ∧ kind ≤ 4))) ∧ PJ w sb fb ps px S2 RS2 s2 ra rn rc q o l fa fn fc W2 ∧ W2.heap[pg]? = some (.cells #[.bool true] 4 (0, 0)) ∧ Nums (i + 1) s2 := by
  have hcw := catchW_keep W fb
  have jc := j.still hcw
  have hpc := hp.keep hcw
  have hsz : (catchW W fb).heap.size = W.heap.size + 2 := by simp [catchW]
  have hlt := j.st.lt
  have hpgl := lt_blk hp.bg
  have hpxl := lt_blk hp.bx
  have hpsl := lt_blk hp.bs
  have hne : px ≠ pg := fun e => by have h1 := hp.bx; have h2 := hp.bg; rw [e] at h1; rw [h1] at h2; simp at h2
  have hne2 : ps ≠ px := fun e => by have h1 := hp.bs; have h2 := hp.bx; rw [e] at h1; rw [h1] at h2; simp at h2
  have hne3 : ps ≠ pg := fun e => by have h1 := hp.bs; have h2 := hp.bg; rw [e] at h1; rw [h1] at h2; simp at h2
  have E := enters_of Try.func23 (by kernel_rfl) rfl
  have hbw : ∀ x, 0 < b.length → vblk (.slice ba bn bc) = some x → x < w.heap.size := fun x hp e => Sl.lt hb (by decide) hp e
  have hbc : BytesAt (catchW W fb) (.slice ba bn bc) b := Sl.keep hb (j.keep.trans hcw) (fun _ _ _ e => e)
  have hbr : ∀ x, 0 < b.length → vblk (.slice ba bn bc) = some x → RS x := fun x h1 h2 => j.inp x (hbw x h1 h2)
  by_cases hl : s.left = 0 ∧ 0 ≤ kind ∧ kind ≤ 4
  · have hR := (plays1_blow jc.st jc.rf jc.dis hbc hbr hpc hbl hl.1 hl.2).mono (R' := fun e w' => (e = .returned (.tuple #[]) ∧ False) ∨ (e = .panicked (blowChain fb) ∧ Keep (fun _ => False) (catchW W fb) w')) (fun e w' h => .inr h)
    refine (catch_any fb ⟨23, #[], #[.pointer (some ⟨ps, 0, none⟩), .pointer (some ⟨px, 0, none⟩), .pointer (some ⟨po, 0, none⟩), .pointer (some ⟨pg, 0, none⟩)]⟩ E W #[.pointer (some ⟨ps, 0, none⟩), .pointer (some ⟨px, 0, none⟩), .pointer (some ⟨po, 0, none⟩), .pointer (some ⟨pg, 0, none⟩)] rfl (fun _ => False) (fun w' => Keep (fun _ => False) (catchW W fb) w') (fun _ h => h.elim) (fun w' h => h.mono (fun _ _ e => e.elim)) hR).mono ?_
    rintro e W2 ⟨w1, (⟨_, h⟩ | ⟨rfl, hk⟩), hk2⟩
    · exact h.elim
    · have hkk : Keep (fun _ => False) W W2 := (hcw.trans hk).trans' hk2 (fun _ _ e => e) (fun i hi e => by omega)
      exact ⟨S, RS, s, _, _, _, _, _, _, _, _, _, by rw [decide_eq_true hl], j.still hkk, hkk.heap hp.bg id, hs.up⟩
  · have hR := (plays1_go jc.st jc.rf jc.dis hbc hbr hpc hbl (by omega) (by have := hs.ops; omega) hs.left hn (fun x e => e.elim (fun e => e ▸ j.nx) (fun e => e ▸ hpg)) hne).mono (R' := fun e w' => (e = .returned (.tuple #[]) ∧ Plays1 sb (.pointer (some ⟨fb, 0, none⟩)) S RS (s.step ⟨kind, name, b⟩) px pg (catchW W fb) w') ∨ (e = .panicked (blowChain fb) ∧ False)) (fun e w' h => .inl h)
    refine (catch_any fb ⟨23, #[], #[.pointer (some ⟨ps, 0, none⟩), .pointer (some ⟨px, 0, none⟩), .pointer (some ⟨po, 0, none⟩), .pointer (some ⟨pg, 0, none⟩)]⟩ E W #[.pointer (some ⟨ps, 0, none⟩), .pointer (some ⟨px, 0, none⟩), .pointer (some ⟨po, 0, none⟩), .pointer (some ⟨pg, 0, none⟩)] rfl _ (fun _ => False) ?_ (fun _ h => h.elim) hR).mono ?_
    · rintro w' ⟨S', RS', _, _, _, _, _, _, _, _, _, h1, h2, h3, h4, h5, h6, h7, h8, h9⟩
      refine h9.mono (fun i _ e => ?_)
      rcases e with e | e | e
      · exact hlt i e
      · omega
      · omega
    · rintro e W2 ⟨w1, (⟨rfl, ⟨S', RS', ra', rn', rc', q', o', l', fa', fn', fc', h1, h2, h3, h4, h5, h6, h7, h8, h9⟩⟩ | ⟨_, h⟩), hk2⟩
      · have hsz1 := h9.size
        have hS' : ∀ x, S' x → x ≠ W.heap.size + 1 := fun x e h => by
          rcases h6 x e with e | e
          · have := hlt x e; omega
          · omega
        have hR' : ∀ x, RS' x → x ≠ W.heap.size + 1 := fun x e h => by
          rcases h8 x e with e | e
          · have := (j.dis x e).2; omega
          · omega
        have hkk : Keep (fun x => S x ∨ x = px ∨ x = pg) W W2 := ((hcw.trans' h9 (fun _ _ e => e.elim) (fun _ _ e => e))).trans' hk2 (fun _ _ e => e) (fun i hi e => by omega)
        refine ⟨S', RS', s.step ⟨kind, name, b⟩, ra', rn', rc', q', o', l', fa', fn', fc', by rw [decide_eq_false hl], ?_, hk2.heap h4 (by omega), hs.step _⟩
        refine ⟨h1.keep hk2 (fun x e h => hS' x h e), h2.keep hk2 (fun x e h => hR' x h e), hk2.heap h3 (by omega), hkk.heap hp.bs (fun e => ?_), fun x e => ⟨(h5 x e).1, Nat.lt_of_lt_of_le (h5 x e).2 hk2.size⟩, fun x e => h7 x (j.inp x e), fun x e => ?_, ⟨fun e => ?_, fun e => ?_⟩, fun e => ?_, j.px1, j.ps1, j.keep.trans' hkk (fun _ _ e => e) (fun i hi e => ?_)⟩
        · rcases e with e | e | e
          · exact j.ns e
          · exact hne2 e
          · exact hne3 e
        · rcases h6 x e with e | e
          · exact j.low x e
          · have := j.keep.size; omega
        · rcases h6 _ e with e | e
          · exact j.nx.1 e
          · omega
        · rcases h8 _ e with e | e
          · exact j.nx.2 e
          · omega
        · rcases h6 _ e with e | e
          · exact j.ns e
          · omega
        · have := j.px1
          rcases e with e | e | e
          · have := j.low i e; omega
          · omega
          · omega
      · exact h.elim
end Go.Proofs.Ytgnigkghkldcfaa
