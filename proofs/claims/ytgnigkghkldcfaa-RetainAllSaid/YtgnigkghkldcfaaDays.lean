/-
  Plain laws on the order of snapshots, and on the places of a list as it would be sorted. No program in sight.
-/
import Derived.Test.YtgnigkghkldcfaaSnap
import Derived.Test.YtgnigkghkldcfaaSym
import Derived.Test.YtgnigkghkldcfaaBase0
import Derived.Test.YtgnigkghkldcfaaOwnNext
import Derived.Lib.SlicesCompact
import Derived.Lib.RowBridge
import Derived.Test.YtgnigkghkldcfaaResCell

/-! Plain laws on the order of snapshots, and on the places of a list as it would be sorted. No program in sight. -/
namespace Go.Proofs.Ytgnigkghkldcfaa
open Go.RowKit Go.Proofs Go.Lib Go.Sort

/-- a comparison of whatever: turned round it changes its sign, and it is passed on -/
structure WO {α : Type} (c : α → α → Int) : Prop where
  anti : ∀ a b, c b a = - c a b
  tr : ∀ a b d, c a b ≤ 0 → c b d ≤ 0 → c a d ≤ 0
theorem WO.self {α : Type} {c : α → α → Int} (h : WO c) (a : α) : c a a = 0 := by have := h.anti a a; omega
theorem WO.lt_le {α : Type} {c : α → α → Int} (h : WO c) {a b d : α} (h1 : c a b < 0) (h2 : c b d ≤ 0) : c a d < 0 := by
  have h3 := h.tr a b d (by omega) h2
  by_cases e : c a d = 0
  · have h4 := h.anti a d
    have h5 := h.tr b d a h2 (by omega)
    have h6 := h.anti a b
    omega
  · omega
theorem WO.le_lt {α : Type} {c : α → α → Int} (h : WO c) {a b d : α} (h1 : c a b ≤ 0) (h2 : c b d < 0) : c a d < 0 := by
  have h3 := h.tr a b d h1 (by omega)
  by_cases e : c a d = 0
  · have h4 := h.anti a d
    have h5 := h.tr d a b (by omega) h1
    have h6 := h.anti b d
    omega
  · omega
theorem WO.eq_eq {α : Type} {c : α → α → Int} (h : WO c) {a b d : α} (h1 : c a b = 0) (h2 : c b d = 0) : c a d = 0 := by
  have h3 := h.tr a b d (by omega) (by omega)
  have h4 := h.anti a d
  have h5 := h.anti a b
  have h6 := h.anti b d
  have h7 := h.tr d b a (by omega) (by omega)
  omega
def orC {α : Type} (c1 c2 : α → α → Int) (a b : α) : Int := if c1 a b = 0 then c2 a b else c1 a b
theorem WO.or {α : Type} {c1 c2 : α → α → Int} (h1 : WO c1) (h2 : WO c2) : WO (orC c1 c2) where
  anti a b := by
    unfold orC
    have e1 := h1.anti a b
    have e2 := h2.anti a b
    by_cases h : c1 a b = 0
    · rw [if_pos h, if_pos (by omega), e2]
    · rw [if_neg h, if_neg (by omega), e1]
  tr a b d := by
    unfold orC
    intro p q
    by_cases x : c1 a b = 0
    · rw [if_pos x] at p
      by_cases y : c1 b d = 0
      · rw [if_pos y] at q
        rw [if_pos (h1.eq_eq x y)]
        exact h2.tr a b d p q
      · rw [if_neg y] at q
        have := h1.le_lt (a := a) (b := b) (d := d) (by omega) (by omega)
        rw [if_neg (by omega)]; omega
    · rw [if_neg x] at p
      have hq : c1 b d ≤ 0 := by
        by_cases y : c1 b d = 0
        · omega
        · rw [if_neg y] at q; exact q
      have := h1.lt_le (a := a) (b := b) (d := d) (by omega) hq
      rw [if_neg (by omega)]; omega
theorem wo_int {α : Type} (f : α → Int) : WO (fun a b => cmpI (f a) (f b)) where
  anti a b := by unfold cmpI; split <;> split <;> first | omega | (split <;> omega)
  tr a b d := by unfold cmpI; intro p q; split at p <;> split at q <;> split <;> first | omega | (split <;> split at p <;> first | omega | (split at q <;> omega)) | (split at p <;> omega) | (split at q <;> omega)
theorem cmpB_cases (x y : Bs) : (bytesBefore x y = true ∧ bytesBefore y x = false ∧ cmpB x y = -1) ∨ (x = y ∧ cmpB x y = 0) ∨ (bytesBefore y x = true ∧ bytesBefore x y = false ∧ cmpB x y = 1) := by
  unfold cmpB
  by_cases e : x = y
  · subst e; right; left; simp [before_irrefl]
  · have ns : ∀ {a b : Bs}, bytesBefore a b = true → bytesBefore b a = false := fun {a b} h => by
      cases h2 : bytesBefore b a with
      | false => rfl
      | true => have := before_trans h h2; rw [before_irrefl] at this; cases this
    rcases before_total e with h | h
    · left; exact ⟨h, ns h, by simp [h]⟩
    · right; right; exact ⟨h, ns h, by simp [h, ns h]⟩
theorem wo_bs {α : Type} (f : α → Bs) : WO (fun a b => cmpB (f a) (f b)) where
  anti a b := by
    show cmpB (f b) (f a) = - cmpB (f a) (f b)
    rcases cmpB_cases (f a) (f b) with ⟨h1, h2, h3⟩ | ⟨h1, h3⟩ | ⟨h1, h2, h3⟩ <;> rcases cmpB_cases (f b) (f a) with ⟨g1, g2, g3⟩ | ⟨g1, g3⟩ | ⟨g1, g2, g3⟩
    all_goals first | omega | (rw [h1] at g2; cases g2) | (rw [g1] at h2; cases h2) | (rw [h1, before_irrefl] at g1; cases g1) | (rw [g1, before_irrefl] at h1; cases h1)
  tr a b d := by
    show cmpB (f a) (f b) ≤ 0 → cmpB (f b) (f d) ≤ 0 → cmpB (f a) (f d) ≤ 0
    intro p q
    have a3 : ∀ {x y : Bs}, bytesBefore x y = true → cmpB x y ≤ 0 := fun {x y} h => by unfold cmpB; simp [h]
    rcases cmpB_cases (f a) (f b) with ⟨h1, h2, h3⟩ | ⟨h1, h3⟩ | ⟨h1, h2, h3⟩
    · rcases cmpB_cases (f b) (f d) with ⟨g1, g2, g3⟩ | ⟨g1, g3⟩ | ⟨g1, g2, g3⟩
      · exact a3 (before_trans h1 g1)
      · rw [← g1]; exact a3 h1
      · omega
    · rw [h1]; exact q
    · omega
theorem cmpB_zero {x y : Bs} (h : cmpB x y = 0) : x = y := by
  rcases cmpB_cases x y with ⟨_, _, h3⟩ | ⟨h1, _⟩ | ⟨_, _, h3⟩
  · omega
  · exact h1
  · omega
theorem cmpI_zero {x y : Int} (h : cmpI x y = 0) : x = y := by unfold cmpI at h; split at h <;> first | omega | (split at h <;> omega)
theorem cmpS_is : cmpS = orC (fun a b => cmpI a.time b.time) (orC (fun a b => cmpB a.host b.host) (orC (fun a b => cmpB a.tag b.tag) (orC (fun a b => cmpB a.root b.root) (orC (fun a b => cmpI a.files b.files) (orC (fun a b => cmpI a.bytes b.bytes) (fun _ _ => 0)))))) := by
  funext a b
  simp only [cmpS, orI, orC]
theorem wo_zero {α : Type} : WO (fun _ _ : α => (0 : Int)) := ⟨fun _ _ => rfl, fun _ _ _ _ _ => Int.le_refl _⟩
theorem wo_cmpS : WO cmpS := by
  rw [cmpS_is]
  exact (wo_int _).or ((wo_bs _).or ((wo_bs _).or ((wo_bs _).or ((wo_int _).or ((wo_int _).or wo_zero)))))
theorem cmpS_zero {a b : SnapR} (h : cmpS a b = 0) : a = b := by
  unfold cmpS at h
  simp only [orI] at h
  split at h
  · rename_i h1
    split at h
    · rename_i h2
      split at h
      · rename_i h3
        split at h
        · rename_i h4
          split at h
          · rename_i h5
            split at h
            · rename_i h6
              cases a; cases b
              have e1 := cmpI_zero h1; have e2 := cmpB_zero h2; have e3 := cmpB_zero h3; have e4 := cmpB_zero h4; have e5 := cmpI_zero h5; have e6 := cmpI_zero h6
              simp only at e1 e2 e3 e4 e5 e6
              rw [e1, e2, e3, e4, e5, e6]
            · omega
          · omega
        · omega
      · omega
    · omega
  · omega
/-- no time of a day stands behind a later one -/
theorem cmpS_time {a b : SnapR} (h : cmpS a b ≤ 0) : a.time ≤ b.time := by
  by_cases hl : b.time < a.time
  · exfalso
    rw [cmpS_is] at h
    unfold orC cmpI at h
    simp only at h
    have e : ¬ a.time < b.time := by omega
    simp [hl, e] at h
  · omega

instance : Inhabited SnapR := ⟨⟨0, [], [], [], 0, 0⟩⟩
/-- the place i stands no later than the place j -/
def leP (L : List SnapR) (i j : Nat) : Prop := cmpS L[i]! L[j]! < 0 ∨ (cmpS L[i]! L[j]! = 0 ∧ i ≤ j)
instance (L : List SnapR) (i j : Nat) : Decidable (leP L i j) := by unfold leP; infer_instance
theorem leP.tr {L : List SnapR} (x y z : Nat) (h : leP L x y) (k : leP L y z) : leP L x z := by
  rcases h with h | ⟨h, h'⟩
  · refine .inl (wo_cmpS.lt_le h ?_)
    rcases k with k | ⟨k, _⟩ <;> omega
  · rcases k with k | ⟨k, k'⟩
    · exact .inl (wo_cmpS.le_lt (by omega) k)
    · exact .inr ⟨wo_cmpS.eq_eq h k, by omega⟩
theorem leP.total (L : List SnapR) (x y : Nat) : leP L x y ∨ leP L y x := by
  unfold leP
  have := wo_cmpS.anti L[x]! L[y]!
  omega
theorem leP.refl (L : List SnapR) (x : Nat) : leP L x x := .inr ⟨wo_cmpS.self _, Nat.le_refl _⟩
theorem leP.anti {L : List SnapR} {x y : Nat} (h : leP L x y) (k : leP L y x) : x = y := by
  unfold leP at h k
  have := wo_cmpS.anti L[x]! L[y]!
  omega
theorem leP.time {L : List SnapR} {x y : Nat} (h : leP L x y) : L[x]!.time ≤ L[y]!.time := cmpS_time (by rcases h with h | ⟨h, _⟩ <;> omega)

theorem right_ix (L : List SnapR) (n : Nat) (hn : n = L.length) (d : Array Nat) (hd : ∀ i, i < n → d[i]! = i) : Right2 (ltOf (cmpIx L)) (leP L) 0 n d := by
  intro i j _ hij hj
  rw [hd i (by omega), hd j hj]
  have ei : L[i]? = some L[i]! := by rw [List.getElem!_eq_getElem?_getD, List.getElem?_eq_getElem (by omega)]; rfl
  have ej : L[j]? = some L[j]! := by rw [List.getElem!_eq_getElem?_getD, List.getElem?_eq_getElem (by omega)]; rfl
  have hc : ltOf (cmpIx L) j i = decide (cmpS L[j]! L[i]! < 0) := by
    unfold ltOf cmpIx
    rw [ei, ej]
    show decide ((if cmpS L[j]! L[i]! < 0 then (-1 : Int) else if cmpS L[i]! L[j]! < 0 then 1 else 0) < 0) = _
    generalize cmpS L[j]! L[i]! = p
    generalize cmpS L[i]! L[j]! = q
    by_cases hp : p < 0
    · rw [if_pos hp, decide_eq_true hp]; rfl
    · rw [if_neg hp, decide_eq_false hp]
      split <;> rfl
  rw [hc]
  have := wo_cmpS.anti L[i]! L[j]!
  refine ⟨fun h => .inl (of_decide_eq_true h), fun h => ?_⟩
  have h' := of_decide_eq_false h
  unfold leP
  omega

/-- the places of a list, as it would be sorted -/
structure Places (L : List SnapR) (at_ : List Nat) : Prop where
  perm : at_.Perm (List.range L.length)
  srt : at_.Pairwise (leP L)
theorem Places.len {L : List SnapR} {at_ : List Nat} (h : Places L at_) : at_.length = L.length := by have := h.perm.length_eq; simpa using this
theorem Places.lt {L : List SnapR} {at_ : List Nat} (h : Places L at_) {i : Nat} (hi : i ∈ at_) : i < L.length := by have := h.perm.mem_iff.1 hi; simpa using this
theorem Places.nodup {L : List SnapR} {at_ : List Nat} (h : Places L at_) : at_.Nodup := h.perm.nodup_iff.2 List.nodup_range
theorem Places.mem {L : List SnapR} {at_ : List Nat} (h : Places L at_) {i : Nat} (hi : i < L.length) : i ∈ at_ := h.perm.mem_iff.2 (by simpa using hi)

theorem places_of {L : List SnapR} {n : Nat} (hn : n = L.length) {d d' : Array Nat} (hd : d = (List.range n).toArray) (h : Mrg (leP L) 0 d.size d d') : Places L d'.toList := by
  have h1 := h.perm
  obtain ⟨hs, _, hp⟩ := h1
  have z : d.size = n := by rw [hd]; simp
  constructor
  · rw [Array.extract_eq_self_of_le (by omega), Array.extract_eq_self_of_le (Nat.le_refl _)] at hp
    rw [hd] at hp
    rw [← hn]; exact hp
  · rw [List.pairwise_iff_getElem]
    intro i j hi hj hij
    have := h.srt i j (Nat.zero_le _) hij (by simp at hj; omega)
    simp at hi hj
    rw [getElem!_pos d' i hi, getElem!_pos d' j hj] at this
    simpa using this
end Go.Proofs.Ytgnigkghkldcfaa

/-! retain.order: the places of a list, as it would be sorted. -/
namespace Go.Proofs.Ytgnigkghkldcfaa
open Go.RowKit Go.Proofs Go.Lib Go.Sort Go.Shelf

theorem sortWorld_keep {α : Type} [Inhabited α] (enc : α → Value) (w : World) (blk off m : Nat) (dk : Array α) (os : Array Obj) : Keep (fun b => b = blk) w (sortWorld enc w blk off m dk os) := by
  refine ⟨rfl, rfl, rfl, ?_, fun k hk hn => ?_⟩
  · unfold sortWorld; rw [Sort.size_grow]; simp [putRow, mapBlock, Sort.ahead]
  · unfold sortWorld
    rw [Sort.heap_grow_old _ _ (by simp [putRow, mapBlock, Sort.ahead]; exact hk)]
    unfold putRow mapBlock Sort.ahead
    show (w.heap.modify blk _)[k]? = _
    rw [Array.getElem?_modify]
    rw [if_neg (fun e => hn e.symm)]
theorem sw_keep {α : Type} [Inhabited α] {enc : α → Value} {w W : World} {blk off : Nat} {dk : Array α} (h : SW enc w blk off dk W) : Keep (fun b => b = blk) w W := by
  obtain ⟨n, os, rfl⟩ := h
  exact sortWorld_keep ..

set_option maxRecDepth 100000 in
theorem insI_nil (w : World) (f : Value) : Calls Try.prog 154 #[.slice none 0 0, .int .i64 0, .int .i64 0, f] w fun e w' => e = .returned (.tuple #[]) ∧ w' = w := by
  go_enter Try.func154, Try.ntmps154
  go_wp2
  refine wp_loop_rounds 1 ?_
  rw [rounds_succ]
  go_wp2
  go_end0
  exact ⟨rfl, rfl⟩
set_option maxRecDepth 100000 in
theorem stable_nil (w : World) (f : Value) : Calls Try.prog 132 #[.slice none 0 0, .int .i64 0, f] w fun e w' => e = .returned (.tuple #[]) ∧ w' = w := by
  go_enter Try.func132, Try.ntmps132
  go_wp2
  refine wp_loop_rounds 1 ?_
  rw [rounds_succ]
  go_wp2_with fail
  refine (insI_nil _ _).mono ?_
  rintro e w' ⟨rfl, rfl⟩
  go_wp2
  refine wp_loop_rounds 1 ?_
  rw [rounds_succ]
  go_wp2
  go_end0
  exact ⟨rfl, rfl⟩
set_option maxRecDepth 100000 in
theorem sortStable_nil (w : World) (f : Value) : Calls Try.prog 114 #[.slice none 0 0, f] w fun e w' => e = .returned (.tuple #[]) ∧ w' = w := by
  go_enter Try.func114, Try.ntmps114
  go_wp2_with fail
  refine (stable_nil _ _).mono ?_
  rintro e w' ⟨rfl, rfl⟩
  go_wp2
  go_end0
  exact ⟨rfl, rfl⟩

def natsV (l : List Nat) : List Value := l.map (fun (n : Nat) => .int .i64 n)
theorem natsV_len (l : List Nat) : (natsV l).length = l.length := by simp [natsV]
theorem natsV_snoc (k : Nat) : natsV (List.range (k + 1)) = natsV (List.range k) ++ [.int .i64 k] := by simp [natsV, List.range_succ]

theorem info_int19 : (Try.prog.info? 3).map (fun i => (i.zero, i.size, i.bytes)) = some (some (.int .i64 0), 1, 8) := by kernel_rfl
theorem enters {P : Program} {f : FuncId} {fn : Func} {c : Code} (hf : P.funcs[f]? = some fn) (hn : ¬ fn.name = "runtime.NumGoroutine") (hb : fn.body = some c) (args : Array Value) (w : World) : (callFunc f args).run P w = .ok (.enter f args) w := by
  unfold callFunc
  simp [hf, hn, hb]
theorem enters_order (args : Array Value) (w : World) : (callFunc 115 args).run Try.prog w = .ok (.enter 115 args) w := enters Try.func115 (by decide) rfl args w

/-- the sorting of the places, with the closure -/
theorem order_sort {w : World} {bx g c n : Nat} {v : Value} {L : List SnapR} (hb : w.cell? ⟨bx, 0, none⟩ = some v) (hL : SnapsAt w v L) (h32 : Snaps32 L) (h40 : L.length < 40) (hn : n = L.length) (h0 : 0 < n)
    (hown : w.ownsRow (bx + 1) 3 1 (.slice (some ⟨g, 0, none⟩) n c) n (natsV (List.range n))) (hv : ∀ b, vblk v = some b → b < bx) :
    Calls Try.prog 114 #[.slice (some ⟨g, 0, none⟩) n c, .func (.func 115) #[] #[.pointer (some ⟨bx, 0, none⟩)]] w fun e w' => e = .returned (.tuple #[]) ∧ ∃ P, Places L P ∧ Sl w' 1 (.slice (some ⟨g, 0, none⟩) n c) n (natsV P) ∧ Keep (fun b => b = g) w w' := by
  obtain ⟨f, hf⟩ : ∃ f : Nat → Nat, f = fun x => if x < n then x else 0 := ⟨_, rfl⟩
  have f1 : ∀ x, f x < n := fun x => by rw [hf]; show (if x < n then x else 0) < n; split <;> omega
  have f2 : ∀ x, x < n → f x = x := fun x hx => by rw [hf]; show (if x < n then x else 0) = x; rw [if_pos hx]
  obtain ⟨d, hd⟩ : ∃ d : Array Nat, d = (List.range n).toArray := ⟨_, rfl⟩
  have hdz : d.size = n := by rw [hd]; simp
  have hdi : ∀ i, i < n → d[i]! = i := fun i hi => by rw [getElem!_pos d i (by omega)]; simp [hd]
  obtain ⟨hx, hh⟩ := hown
  rcases hh with ⟨e, _⟩ | ⟨g', c', cur, e, hbase, hg, h1, h2, h3, h4⟩
  · cases e
  simp only [Value.slice.injEq, Option.some.injEq, Addr.mk.injEq, and_true, true_and] at e
  obtain ⟨rfl, rfl⟩ := e
  have hlt : g < w.heap.size := by
    rcases Nat.lt_or_ge g w.heap.size with h | h
    · exact h
    · rw [Array.getElem?_eq_none h] at hg; cases hg
  have hcell : ∀ j, j < n → w.cell? ⟨g, j, none⟩ = some (.int .i64 j) := fun j hj => by
    rw [cell_blk hg]
    have e1 : (cur.toList.take (n * 1))[j]? = cur.toList[j]? := List.getElem?_take_of_lt (by omega)
    rw [h4] at e1
    rw [← Array.getElem?_toList, ← e1]
    simp [natsV, hj]
  have R : Row1 (natV f) w g 0 d := by
    refine ⟨natV_one f, fun j hj => ?_, hlt⟩
    rw [Nat.zero_add, hdi j (by omega)]
    exact ⟨by rw [hcell j (by omega)]; unfold natV; rw [f2 j (by omega)], frozen_blk hg j⟩
  have hcmp : CmpLays1 Try.prog 115 #[.pointer (some ⟨bx, 0, none⟩)] (natV f) (fun x y => cmpIx L (f x) (f y)) g 0 d.size w := by
    intro m os dk hs x y
    have kk := sortWorld_keep (natV f) w g 0 m dk os
    have hbl := World.block_lt_of_cell? (a := ⟨bx, 0, none⟩) w hb
    have c1 : (sortWorld (natV f) w g 0 m dk os).cell? ⟨bx, 0, none⟩ = some v := (World.cell?_of_block (kk.block bx hbl (by omega))).trans hb
    have l1 : SnapsAt (sortWorld (natV f) w g 0 m dk os) v L := Sl.keep hL kk (fun b _ e h => by have := hv b e; omega)
    exact order1_any c1 l1 h32 (by have := f1 x; omega) (by have := f1 y; omega)
  have hr : Right2 (ltOf (fun x y => cmpIx L (f x) (f y))) (leP L) 0 d.size d := by
    intro i j i1 i2 i3
    have := right_ix L n hn d hdi i j i1 i2 (by omega)
    unfold ltOf at this ⊢
    show (decide (cmpIx L (f d[j]!) (f d[i]!) < 0) = true → _) ∧ (decide (cmpIx L (f d[j]!) (f d[i]!) < 0) = false → _)
    rw [hdi i (by omega), hdi j (by omega)] at this ⊢
    rw [f2 i (by omega), f2 j (by omega)]
    exact this
  refine (sortStable_any leP.tr enters_order hcmp R hdz.symm (by omega) hr).mono ?_
  rintro e w' ⟨rfl, d', hm, hs⟩
  have hp := places_of hn hd hm
  have hz : d'.size = d.size := hm.perm.1
  refine ⟨rfl, d'.toList, hp, ?_, sw_keep hs⟩
  refine ⟨by rw [natsV_len]; simp; omega, some ⟨g, 0, none⟩, c, rfl, h1, h2, (fun e => by cases e), fun _ => ⟨g, 0, rfl, fun j hj => ?_⟩⟩
  have hjn : j < d'.size := by omega
  rw [hs.c1 R hz j hjn]
  have hmem : d'[j]! < n := by
    rw [getElem!_pos d' j hjn, hn]
    exact hp.lt (by simp)
  unfold natV natsV
  rw [f2 _ hmem, List.getElem?_map, Array.getElem?_toList, Array.getElem?_eq_getElem hjn, getElem!_pos d' j hjn]
  rfl

theorem own_ptr {W : World} {base : Nat} {e : TypeId} {k n : Nat} {v : Value} {xs : List Value} (h : W.ownsRow base e k v n xs) (hn : 0 < n) : ∃ g cap, v = .slice (some ⟨g, 0, none⟩) n cap ∧ base ≤ g := by
  rcases h.2 with ⟨_, e⟩ | ⟨g, cap, cur, e, hb, _⟩
  · omega
  · exact ⟨g, cap, e, hb⟩
theorem sl_nil (w : World) (k : Nat) : Sl w k (.slice none 0 0) 0 [] := ⟨by simp, none, 0, rfl, Nat.le_refl _, by decide, (fun _ => rfl), fun h => by omega⟩

set_option maxRecDepth 1000000 in
set_option maxHeartbeats 2000000 in
theorem order_any {w : World} {v : Value} {L : List SnapR} (hL : SnapsAt w v L) (h32 : Snaps32 L) (h40 : L.length < 40) :
    Calls Try.prog 85 #[v] w fun e w' => ∃ r P, e = .returned r ∧ Places L P ∧ Sl w' 1 r L.length (natsV P) ∧ Keep (fun _ => False) w w' ∧ ∀ b, vblk r = some b → w.heap.size ≤ b ∧ b < w'.heap.size := by
  obtain ⟨i0, hi, hz0, hz1, hz2⟩ := info_parts info_int19
  obtain ⟨n, hn⟩ : ∃ n, n = L.length := ⟨_, rfl⟩
  have hvb : 0 < n → ∀ b, vblk v = some b → b < w.heap.size := fun h0 b e => Sl.lt hL (by decide) (by omega) e
  have HSRT := Lib.hid (fun (W : World) (g c : Nat) (k0 : Keep (fun _ => False) (w.alloc (.cells #[v] 93)) W) (h0 : 0 < n) (hown : W.ownsRow (w.heap.size + 1) 3 1 (.slice (some ⟨g, 0, none⟩) n c) n (natsV (List.range n))) =>
    order_sort (w := W) (bx := w.heap.size) (g := g) (c := c) (n := n) (v := v) (L := L) (by rw [cell_blk (k0.heap (alloc_new w _) id)]; rfl) ((hL.keep ((Keep.refl (fun _ => False) w).alloc _) (fun _ _ e => e)).keep k0 (fun _ _ e => e)) h32 h40 hn h0 hown (hvb h0))
  rw [← hn]
  have HNIL : Hid (n = 0 → Places L []) := fun e => ⟨by rw [← hn, e]; exact List.Perm.refl _, List.Pairwise.nil⟩
  have hsl := hL
  unfold SnapsAt at hsl
  rw [← hn] at hsl
  obtain ⟨_, va, vc, ev, v1, v2, _, _⟩ := hsl
  subst ev
  unfold maxLen at v2
  have n40 : n < 40 := by omega
  have own0 : (w.alloc (.cells #[.slice va n vc] 93)).ownsRow (w.heap.size + 1) 3 1 (.slice none 0 0) 0 (natsV (List.range 0)) := ⟨rfl, .inl ⟨rfl, rfl⟩⟩
  have cbx : ∀ W, Keep (fun _ => False) (w.alloc (.cells #[.slice va n vc] 93)) W → W.cell? ⟨w.heap.size, 0, none⟩ = some (.slice va n vc) := fun W k => by rw [cell_blk (k.heap (alloc_new w _) id)]; rfl
  have HBX := Lib.hid cbx
  clear hL h32 h40 hn hvb cbx
  go_enter Try.func85, Try.ntmps85
  go_wp2
  go_loopg [3, 7] n (fun kx s3 s7 wr => ∃ k : Nat, k ≤ n ∧ kx = n - k ∧ s7 = .int .i64 k ∧ (k = 0 → s3 = .slice none 0 0) ∧ wr.ownsRow (w.heap.size + 1) 3 1 s3 k (natsV (List.range k)) ∧ Keep (fun _ => False) (w.alloc (.cells #[.slice va n vc] 93)) wr)
  case atStart => exact ⟨0, Nat.zero_le _, rfl, rfl, fun _ => rfl, own0, Keep.refl _ _⟩
  case round =>
    obtain ⟨k, hk, hg, rfl, hz, hown, hkeep⟩ := hrel
    clear own0
    by_cases hlt : k < n
    · have i2 : (k : Int) < n := by omega
      have one1 : ∀ u ∈ [Value.int .i64 k], u.oneCell' = true := by intro u hu; simp at hu; rw [hu]; rfl
      have n4 : k + 1 ≤ maxLen := by unfold maxLen; omega
      have n5 : (k + 1) * 8 ≤ 140737488355328 := by omega
      have n6 : w.heap.size + 1 ≤ (wr.alloc (.cells #[.int .i64 k] 3)).heap.size := by have := hkeep.size; simp at this ⊢; omega
      obtain ⟨va1, vc1, rfl⟩ := own_slice hown
      have hlo : ∀ x, vblk (.slice va1 k vc1) = some x → (w.alloc (.cells #[.slice va n vc] 93)).heap.size ≤ x := fun x e => by have := (own_lt hown x e).1; simp; omega
      have HOW := Lib.hid hown; have HKP := Lib.hid hkeep; have HLO := Lib.hid hlo
      have ONE := Lib.hid one1; have N4 := Lib.hid n4; have N5 := Lib.hid n5; have N6 := Lib.hid n6; have HG := Lib.hid hg; have HLT := Lib.hid hlt
      clear hz hown hkeep hlo one1 n4 n5 n6 hg hlt hk
      go_wp2_with (at_builtin; refine wpList_append_sl rfl (.tmp 10) (.tmp 12) 45 rfl (w.heap.size + 1) 3 i0 _ 1 8 Try.underlying45 hi hz0 hz1 hz2 rfl (by decide) (.slice va1 k vc1) k (natsV (List.range k)) rfl (HOW.out.alloc _) _ 1 [.int .i64 k] rfl (sl_made wr 1 1 #[.int .i64 k] 3 rfl (by decide)) ONE.out N4.out N5.out N6.out ?_; intro v8 Y1 hown1 hk1 hb1; obtain ⟨g1, c1, e1, O1, KX1, B1, Z1⟩ := own_next (HKP.out.alloc _) HLO.out hown1 hk1 hb1; subst e1; clear hown1 hk1 hb1)
      go_roundg (n - (k + 1))
      case measure => have := HG.out; have := HLT.out; omega
      case rel => exact ⟨k + 1, HLT.out, rfl, by go_num, (fun e => by omega), by rw [natsV_snoc]; exact O1.out, KX1.out⟩
    · have hkn : k = n := by omega
      subst hkn
      rcases Nat.eq_zero_or_pos k with e0 | hpos
      · subst e0
        have e3 := hz rfl
        subst e3
        have HKP := Lib.hid hkeep
        clear hz hown hkeep hg hlt hk
        go_wp2_with fail
        refine (sortStable_nil _ _).mono ?_
        rintro e w' ⟨rfl, rfl⟩
        go_wp2
        go_ret
        exact ⟨_, [], rfl, HNIL.out (by simp), sl_nil _ _, ((Keep.refl _ _).alloc _).trans HKP.out, fun b e => by cases e⟩
      · obtain ⟨g, cc, e3, hgb⟩ := own_ptr hown hpos
        subst e3
        have hs := HSRT.out wr g cc hkeep hpos hown
        have HS := Lib.hid hs
        have HKP := Lib.hid hkeep
        have HGB := Lib.hid hgb
        have HGL := Lib.hid (own_lt hown g rfl).2
        clear hz hown hkeep hg hlt hk hs hgb
        go_wp2_with fail
        refine HS.out.mono ?_
        rintro e w' ⟨rfl, P, hP, hS, hK⟩
        have HP := Lib.hid hP; have HS2 := Lib.hid hS; have HK := Lib.hid hK
        clear hP hS hK
        go_wp2
        go_ret
        refine ⟨_, P, rfl, HP.out, HS2.out, (((Keep.refl (fun _ => False) w).alloc _).trans HKP.out).trans' HK.out (fun _ _ e => e) (fun i hi e => by have := HGB.out; omega), fun b e => ?_⟩
        have e' : g = b := by simpa [vblk] using e
        have := HGB.out; have := HGL.out; have := HK.out.size; omega
end Go.Proofs.Ytgnigkghkldcfaa

/-! Plain laws on falling rows of numbers: what slices.Compact makes of one; two with the same members are one. No program in sight. -/
namespace Go.Proofs.Ytgnigkghkldcfaa
open Go.RowKit Go.Proofs Go.Lib Go.Sort

def Falls (l : List Int) : Prop := l.Pairwise (fun a b => b < a)
theorem falls_unique : ∀ {a b : List Int}, Falls a → Falls b → (∀ x, x ∈ a ↔ x ∈ b) → a = b
  | [], [], _, _, _ => rfl
  | [], y :: s, _, _, h => by have := (h y).2 (List.mem_cons_self ..); cases this
  | x :: r, [], _, _, h => by have := (h x).1 (List.mem_cons_self ..); cases this
  | x :: r, y :: s, ha, hb, h => by
    obtain ⟨a1, a2⟩ := List.pairwise_cons.1 ha
    obtain ⟨b1, b2⟩ := List.pairwise_cons.1 hb
    have e : x = y := by
      have h1 := (h x).1 (List.mem_cons_self ..)
      have h2 := (h y).2 (List.mem_cons_self ..)
      rcases List.mem_cons.1 h1 with h1 | h1
      · exact h1
      · rcases List.mem_cons.1 h2 with h2 | h2
        · exact h2.symm
        · have := b1 x h1; have := a1 y h2; omega
    subst e
    congr 1
    refine falls_unique a2 b2 fun z => ⟨fun hz => ?_, fun hz => ?_⟩
    · rcases List.mem_cons.1 ((h z).1 (List.mem_cons_of_mem _ hz)) with e | h'
      · have := a1 z hz; omega
      · exact h'
    · rcases List.mem_cons.1 ((h z).2 (List.mem_cons_of_mem _ hz)) with e | h'
      · have := b1 z hz; omega
      · exact h'
theorem compactUpTo_falls {d : Array Int} (hd : ∀ i, i + 1 < d.size → d[i + 1]! ≤ d[i]!) : ∀ m, m ≤ d.size → Falls (compactUpTo d m) ∧ (∀ x, x ∈ compactUpTo d m ↔ ∃ j, j < m ∧ d[j]! = x) ∧ ∀ x ∈ compactUpTo d m, ∀ k, m = k + 1 → d[k]! ≤ x
  | 0, _ => ⟨by simp [compactUpTo, Falls], by simp [compactUpTo], by simp⟩
  | m + 1, hm => by
    obtain ⟨h1, h2, h3⟩ := compactUpTo_falls hd m (by omega)
    rw [compactUpTo_succ]
    by_cases hk : keeps d m = true
    · rw [if_pos hk]
      have big : ∀ x ∈ compactUpTo d m, d[m]! < x := fun x hx => by
        cases m with
        | zero => simp [compactUpTo] at hx
        | succ k =>
          have e1 := h3 x hx k rfl
          have e2 := hd k (by omega)
          unfold keeps at hk
          have := of_decide_eq_true hk
          simp at this
          omega
      refine ⟨?_, fun x => ?_, fun x hx k hk2 => ?_⟩
      · unfold Falls
        rw [List.pairwise_append]
        exact ⟨h1, List.pairwise_singleton _ _, fun a ha b hb => by simp at hb; rw [hb]; exact big a ha⟩
      · rw [List.mem_append, h2]
        constructor
        · rintro (⟨j, hj, e⟩ | h)
          · exact ⟨j, by omega, e⟩
          · simp at h; exact ⟨m, by omega, h.symm⟩
        · rintro ⟨j, hj, e⟩
          by_cases e2 : j = m
          · right; rw [← e, e2]; simp
          · left; exact ⟨j, by omega, e⟩
      · have e : k = m := by omega
        subst e
        rcases List.mem_append.1 hx with hx | hx
        · have := big x hx; omega
        · simp at hx; omega
    · rw [if_neg hk, List.append_nil]
      have hkf : ¬ (m = 0 ∨ d[m]! ≠ d[m - 1]!) := fun e => hk (decide_eq_true e)
      have hm0 : m ≠ 0 := fun e => hkf (.inl e)
      have hkf2 : d[m]! = d[m - 1]! := by
        by_cases e : d[m]! = d[m - 1]!
        · exact e
        · exact absurd (.inr e) hkf
      obtain ⟨k, rfl⟩ : ∃ k, m = k + 1 := ⟨m - 1, by omega⟩
      simp only [Nat.add_sub_cancel] at hkf2
      refine ⟨h1, fun x => ?_, fun x hx k' hk2 => ?_⟩
      · rw [h2]
        constructor
        · rintro ⟨j, hj, e⟩; exact ⟨j, by omega, e⟩
        · rintro ⟨j, hj, e⟩
          by_cases e2 : j = k + 1
          · exact ⟨k, by omega, by rw [← hkf2, ← e2]; exact e⟩
          · exact ⟨j, by omega, e⟩
      · have e : k' = k + 1 := by omega
        subst e
        rw [hkf2]
        exact h3 x hx k rfl
theorem compact_falls {zs : List Int} (h : zs.Pairwise (fun a b => b ≤ a)) : Falls (Lib.compact zs) ∧ ∀ x, x ∈ Lib.compact zs ↔ x ∈ zs := by
  have hd : ∀ i, i + 1 < zs.toArray.size → zs.toArray[i + 1]! ≤ zs.toArray[i]! := fun i hi => by
    simp at hi
    have := List.pairwise_iff_getElem.1 h i (i + 1) (by omega) hi (by omega)
    simpa [getElem!_pos, hi, show i < zs.length by omega] using this
  obtain ⟨h1, h2, _⟩ := compactUpTo_falls hd zs.length (by simp)
  refine ⟨h1, fun x => (h2 x).trans ?_⟩
  constructor
  · rintro ⟨j, hj, rfl⟩
    simp [getElem!_pos, hj]
  · intro hx
    obtain ⟨j, hj, e⟩ := List.getElem_of_mem hx
    exact ⟨j, hj, by simp [getElem!_pos, hj, e]⟩

/-- the days that have a snapshot, falling -/
structure DaysOf (L : List SnapR) (day : Int) (D : List Int) : Prop where
  falls : Falls D
  mem : ∀ x, x ∈ D ↔ (1 ≤ day ∧ ∃ s ∈ L, s.time / day = x)
theorem days_sorted (L : List SnapR) {day : Int} (hd : 1 ≤ day) : DaysOf L day (Lib.compact ((L.map (fun s => s.time / day)).mergeSort (fun x y => decide (x ≤ y))).reverse) := by
  have hs : ((L.map (fun s => s.time / day)).mergeSort (fun x y => decide (x ≤ y))).reverse.Pairwise (fun a b => b ≤ a) := by
    rw [List.pairwise_reverse]
    have := List.pairwise_mergeSort (le := fun (x y : Int) => decide (x ≤ y)) (fun a b c h1 h2 => by simp at *; omega) (fun a b => by simp; omega) (L.map (fun s => s.time / day))
    exact this.imp (fun h => by simpa using h)
  obtain ⟨h1, h2⟩ := compact_falls hs
  refine ⟨h1, fun x => ?_⟩
  rw [h2, List.mem_reverse, List.mem_mergeSort, List.mem_map]
  exact ⟨fun h => ⟨hd, h⟩, fun h => h.2⟩
theorem DaysOf.eq {L : List SnapR} {day : Int} {D E : List Int} (h : DaysOf L day D) (k : DaysOf L day E) : D = E := falls_unique h.falls k.falls (fun x => (h.mem x).trans (k.mem x).symm)
theorem days_none (L : List SnapR) {day : Int} (hd : ¬ 1 ≤ day) : DaysOf L day [] := ⟨List.Pairwise.nil, fun x => ⟨fun h => by simp at h, fun h => absurd h.1 hd⟩⟩
end Go.Proofs.Ytgnigkghkldcfaa

/-! retain.floor, retain.above. -/
namespace Go.Proofs.Ytgnigkghkldcfaa
open Go.RowKit Go.Proofs Go.Lib Go.Sort

def In64 (t : Int) : Prop := -9223372036854775808 ≤ t ∧ t ≤ 9223372036854775807

theorem tmod_neg {t d : Int} (hd : 1 ≤ d) (h : t.tmod d < 0) : t.tdiv d - 1 = t / d := by
  have h1 := Int.tdiv_mul_add_tmod t d
  have h2 : -d < t.tmod d := by
    rcases Int.le_total 0 t with h0 | h0
    · have := Int.tmod_nonneg d h0; omega
    · have e : t = -(-t) := by omega
      rw [e, Int.neg_tmod]
      have := Int.tmod_lt_of_pos (-t) (show 0 < d by omega)
      omega
  symm
  have e : t = (t.tmod d + d) + (t.tdiv d - 1) * d := by
    have : (t.tdiv d - 1) * d = t.tdiv d * d - d := by rw [Int.sub_mul, Int.one_mul]
    omega
  have h3 : ((t.tmod d + d) + (t.tdiv d - 1) * d) / d = (t.tmod d + d) / d + (t.tdiv d - 1) := Int.add_mul_ediv_right _ _ (by omega)
  rw [← e] at h3
  rw [h3, Int.ediv_eq_zero_of_lt (by omega) (by omega)]
  omega
theorem tmod_pos {t d : Int} (hd : 1 ≤ d) (h : ¬ t.tmod d < 0) : t.tdiv d = t / d := by
  have h1 := Int.tdiv_mul_add_tmod t d
  have h2 := Int.tmod_lt_of_pos t (show 0 < d by omega)
  symm
  have e : t = t.tmod d + t.tdiv d * d := by omega
  have h3 : (t.tmod d + t.tdiv d * d) / d = t.tmod d / d + t.tdiv d := Int.add_mul_ediv_right _ _ (by omega)
  rw [← e] at h3
  rw [h3, Int.ediv_eq_zero_of_lt (by omega) (by omega)]
  omega
theorem div_in {t d : Int} (ht : In64 t) (hd : 1 ≤ d) : In64 (t / d) := by
  unfold In64 at *
  constructor
  · have := (Int.le_ediv_iff_mul_le (c := d) (a := -9223372036854775808) (b := t) (by omega)).2 (by omega)
    exact this
  · have := (Int.ediv_le_iff_le_mul (k := d) (x := t) (y := 9223372036854775807) (by omega)).2 (by omega)
    exact this

set_option maxRecDepth 100000 in
theorem floor_any {t d : Int} (ht : In64 t) (hd : 1 ≤ d) (w : World) : Calls Try.prog 94 #[.int .i64 t, .int .i64 d] w fun e w' => e = .returned (.int .i64 (t / d)) ∧ w' = w := by
  have h0 : (d == 0) = false := by simp; omega
  have hr := div_in ht hd
  obtain ⟨r, er⟩ : ∃ r, r = t / d := ⟨_, rfl⟩
  rw [← er] at hr ⊢
  obtain ⟨r1, r2⟩ := hr
  by_cases hm : t.tmod d < 0
  · have e1 := tmod_neg hd hm
    have e2 : t.tdiv d = r + 1 := by omega
    have E2 := Lib.hid e2
    clear e1 e2 er
    go_enter Try.func94, Try.ntmps94
    go_wp2
    go_ret
    refine ⟨?_, rfl⟩
    show Ending.returned (.int .i64 _) = _
    rw [E2.out]
    congr 2
    show wrap64 (wrap64 (r + 1) - 1) = r
    unfold wrap64
    omega
  · have e1 := tmod_pos hd hm
    have e2 : t.tdiv d = r := by omega
    have E2 := Lib.hid e2
    clear e1 e2 er
    go_enter Try.func94, Try.ntmps94
    go_wp2
    go_ret
    refine ⟨?_, rfl⟩
    show Ending.returned (.int .i64 _) = _
    rw [E2.out]
    congr 2
    show wrap64 r = r
    unfold wrap64
    omega
def aboveV (t last less : Int) : Bool := decide (0 < less) && decide (last - t < less)
set_option maxRecDepth 100000 in
theorem above_any {t last less : Int} (ht : In64 t) (hl : In64 last) (hs : In64 less) (htl : t ≤ last) (w : World) : Calls Try.prog 87 #[.int .i64 t, .int .i64 last, .int .i64 less] w fun e w' => e = .returned (.bool (aboveV t last less)) ∧ w' = w := by
  by_cases h : 0 < less
  · go_enter Try.func87, Try.ntmps87
    go_wp2
    go_ret
    refine ⟨?_, rfl⟩
    show Ending.returned (.bool _) = _
    have u : ∀ x : Int, IntKind.u64.wrap x = x % 18446744073709551616 := fun x => rfl
    simp only [u, aboveV]
    unfold In64 at ht hl hs
    congr 2
    rw [decide_eq_true h, Bool.true_and]
    congr 1
    apply propext
    omega
  · go_enter Try.func87, Try.ntmps87
    go_wp2
    go_ret
    refine ⟨?_, rfl⟩
    show Ending.returned (.bool _) = _
    have e : decide (0 < less) = false := decide_eq_false (by omega)
    unfold aboveV
    rw [e]; rfl
end Go.Proofs.Ytgnigkghkldcfaa

/-! retain.Days: the days that have a snapshot, falling. -/
namespace Go.Proofs.Ytgnigkghkldcfaa
open Go.RowKit Go.Proofs Go.Lib Go.Sort Go.Shelf

/-- a row of numbers in a block of its own -/
structure RowAt (W0 W : World) (g : Nat) (xs : List Int) : Prop where
  holds : Holds (Value.int .i64) W g 0 xs.toArray
  lt : g < W.heap.size
  keep : Keep (fun b => b = g) W0 W
theorem RowAt.put {W0 W : World} {g : Nat} {xs ys : List Int} (h : RowAt W0 W g xs) (hl : ys.length = xs.length) (n : Nat) (os : Array Obj) : RowAt W0 (sortWorld (Value.int .i64) W g 0 n ys.toArray os) g ys where
  holds := holds_sortWorld _ W g 0 n xs.toArray ys.toArray os h.lt h.holds (by simpa using hl)
  lt := lt_sortWorld _ W g 0 n _ os h.lt
  keep := h.keep.trans (sortWorld_keep ..)
theorem RowAt.sl {W0 W : World} {g c : Nat} {xs ys : List Int} (h : RowAt W0 W g (xs ++ ys)) (h1 : xs.length ≤ c) (h2 : c ≤ maxLen) : Sl W 1 (.slice (some ⟨g, 0, none⟩) xs.length c) xs.length (xs.map (.int .i64)) := by
  refine ⟨by simp, some ⟨g, 0, none⟩, c, rfl, h1, h2, (fun e => by cases e), fun _ => ⟨g, 0, rfl, fun j hj => ?_⟩⟩
  have hj' : j < (xs ++ ys).toArray.size := by simp; omega
  rw [(h.holds j hj').1, getElem!_pos _ j hj', List.getElem?_map, List.getElem?_eq_getElem (by omega)]
  simp only [List.getElem_toArray, Option.map_some]
  rw [List.getElem_append_left (by omega)]
theorem row_of_owns {W : World} {base g n c : Nat} {e : TypeId} {xs : List Int} (h : W.ownsRow base e 1 (.slice (some ⟨g, 0, none⟩) n c) n (xs.map (.int .i64))) : RowAt W W g xs ∧ n = xs.length ∧ n ≤ c ∧ c ≤ maxLen := by
  obtain ⟨hx, hh⟩ := h
  rcases hh with ⟨e, _⟩ | ⟨g', c', cur, e, hbase, hg, h1, h2, h3, h4⟩
  · cases e
  simp only [Value.slice.injEq, Option.some.injEq, Addr.mk.injEq, and_true, true_and] at e
  obtain ⟨rfl, rfl⟩ := e
  simp at hx
  refine ⟨⟨fun j hj => ?_, ?_, Keep.refl _ _⟩, by omega, h1, h2⟩
  · simp at hj
    rw [Nat.zero_add]
    refine ⟨?_, frozen_blk hg j⟩
    rw [cell_blk hg]
    have e1 : (cur.toList.take (n * 1))[j]? = cur.toList[j]? := List.getElem?_take_of_lt (by omega)
    rw [h4] at e1
    rw [← Array.getElem?_toList, ← e1, List.getElem?_map, List.getElem?_eq_getElem hj, getElem!_pos _ j (by simpa using hj)]
    simp
  · rcases Nat.lt_or_ge g W.heap.size with h | h
    · exact h
    · rw [Array.getElem?_eq_none h] at hg; cases hg

theorem sort_row {W0 W : World} {g n c : Nat} {xs : List Int} (h : RowAt W0 W g xs) (hn : n = xs.length) (h40 : n < 40) :
    Calls Try.prog 95 #[.slice (some ⟨g, 0, none⟩) n c] W fun e w' => e = .returned (.tuple #[]) ∧ RowAt W0 w' g (xs.mergeSort fun x y => decide (x ≤ y)) := by
  subst hn
  refine (Try.slices_Sort_int g 0 c xs W h.holds h.lt (by omega)).mono ?_
  rintro e w' ⟨rfl, q, os, rfl⟩
  exact ⟨rfl, h.put (by simp) q os⟩
theorem rev_row {W0 W : World} {g n c : Nat} {xs : List Int} (h : RowAt W0 W g xs) (hn : n = xs.length) (h40 : n < 40) :
    Calls Try.prog 96 #[.slice (some ⟨g, 0, none⟩) n c] W fun e w' => e = .returned (.tuple #[]) ∧ RowAt W0 w' g xs.reverse := by
  subst hn
  refine (Try.slices_Reverse_int g 0 c xs W h.holds (by omega)).mono ?_
  rintro e w' ⟨rfl, q, rfl⟩
  have := h.put (ys := xs.reverse) (by simp) q #[]
  unfold sortWorld at this
  rw [grow_empty] at this
  exact ⟨rfl, this⟩
theorem comp_row {W0 W : World} {g n c : Nat} {xs : List Int} (h : RowAt W0 W g xs) (hn : n = xs.length) (h40 : n < 40) (hc : n ≤ c) :
    Calls Try.prog 97 #[.slice (some ⟨g, 0, none⟩) n c] W fun e w' => e = .returned (.slice (some ⟨g, 0, none⟩) (Lib.compact xs).length c) ∧ ∃ ys, RowAt W0 w' g (Lib.compact xs ++ ys) := by
  subst hn
  refine (Try.slices_Compact_int g 0 c xs W h.holds (by omega) hc).mono ?_
  rintro e w' ⟨rfl, q, rfl⟩
  have := h.put (ys := Lib.compact xs ++ List.replicate (xs.length - (Lib.compact xs).length) 0) (by have := compact_length_le xs; simp; omega) q #[]
  unfold sortWorld at this
  rw [grow_empty] at this
  exact ⟨rfl, _, this⟩

theorem wpList_load_run {P : Program} {ops : Array Oper} {rest : List Oper} {o : Oper} {a : Act} {W : World} {Q : Exit → Act → World → Prop} (hg : o.guard = none) (ty : TypeId) (x : Operand) (ho : o.op = .load ty x)
    (ad : Addr) (hx : a.eval x = .pointer (some ad)) (v : Value) (hr : (Instr.loadAt ty (.pointer (some ad))).run P W = .ok v W) (h : wpList P ops Q rest (a.put o.dst v) W) : wpList P ops Q (o :: rest) a W := by
  refine wpList_plain hg fun K hK => ?_
  unfold Oper.wp execOp
  simp only [ho, hx, Sem.run_bind, hr, Result.andThen_ok]
  exact hK _ _ h

theorem info_i64 : (Try.prog.info? 2).map (fun i => (i.zero, i.size, i.bytes)) = some (some (.int .i64 0), 1, 8) := by kernel_rfl
def daysI (L : List SnapR) (day : Int) : List Int := L.map (fun s => s.time / day)
theorem snap_one (s : SnapR) : (snapCells s).toArray.all (·.oneCell') = true := by
  rw [List.all_toArray]
  unfold snapCells bytesV
  simp [List.all_append, strV, Value.oneCell']

set_option maxRecDepth 1000000 in
set_option maxHeartbeats 4000000 in
theorem days_any {w : World} {v : Value} {L : List SnapR} {day : Int} (hL : SnapsAt w v L) (h32 : Snaps32 L) (ht : ∀ s ∈ L, In64 s.time) (h40 : L.length < 40) :
    Calls Try.prog 57 #[v, .int .i64 day] w fun e w' => ∃ r D, e = .returned r ∧ DaysOf L day D ∧ Sl w' 1 r D.length (D.map (.int .i64)) ∧ Keep (fun _ => False) w w' ∧ ∀ b, vblk r = some b → w.heap.size ≤ b := by
  by_cases hday : 1 ≤ day
  · obtain ⟨i0, hi, hz0, hz1, hz2⟩ := info_parts info_i64
    obtain ⟨n, hn⟩ : ∃ n, n = L.length := ⟨_, rfl⟩
    have hsl := hL
    unfold SnapsAt at hsl
    obtain ⟨_, va, vc, ev, v1, v2, _, v4⟩ := hsl
    rw [← hn] at ev v1
    subst ev
    unfold maxLen at v2
    have n40 : n < 40 := by omega
    have own0 : w.ownsRow w.heap.size 2 1 (.slice none 0 0) 0 ((daysI (L.take 0) day).map (.int .i64)) := ⟨rfl, .inl ⟨rfl, rfl⟩⟩
    have HLD := Lib.hid (fun (W : World) (K : Keep (fun _ => False) w W) (b o k : Nat) (s : SnapR) (e : va = some ⟨b, o, none⟩) (hk : L[k]? = some s) => SnapsAt.load (w := W) (b := b) (o := o) (n := n) (c := vc) (L := L) (by rw [← e]; exact hL.keep K (fun _ _ e => e)) h32 hk)
    have HN := Lib.hid hn
    clear hL hn
    go_enter Try.func57, Try.ntmps57
    go_wp2
    go_loopg [5, 12] n (fun kx s5 s12 wr => ∃ k : Nat, k ≤ n ∧ kx = n - k ∧ s12 = .int .i64 k ∧ (k = 0 → s5 = .slice none 0 0) ∧ wr.ownsRow w.heap.size 2 1 s5 k ((daysI (L.take k) day).map (.int .i64)) ∧ Keep (fun _ => False) w wr)
    case atStart => exact ⟨0, Nat.zero_le _, rfl, rfl, fun _ => rfl, own0, Keep.refl _ _⟩
    case round =>
      obtain ⟨k, hk, hg, rfl, hz, hown, hkeep⟩ := hrel
      clear own0
      have hn := HN.out
      by_cases hlt : k < n
      · obtain ⟨s, hs⟩ : ∃ s, L[k]? = some s := ⟨_, List.getElem?_eq_getElem (by omega)⟩
        obtain ⟨bb, oo, rfl, _⟩ := v4 (by omega)
        have hld := HLD.out wr hkeep bb oo k s rfl hs
        have hs32 := h32 s (List.mem_of_getElem? hs)
        have hst := ht s (List.mem_of_getElem? hs)
        obtain ⟨A, hA⟩ : ∃ A, A = (snapCells s).toArray := ⟨_, rfl⟩
        have a0 : A[0]? = some (.int .i64 s.time) := by rw [hA]; rfl
        have az : A.size = 37 := by rw [hA]; simpa using snapCells_len hs32
        have a1 : A.all (·.oneCell') = true := by rw [hA]; exact snap_one s
        have hia : (Try.prog.info? 108).map (·.size) = some A.size := by rw [az]; exact infoSnap
        rw [← hA] at hld
        have hstep : (daysI (L.take (k + 1)) day).map (Value.int .i64) = (daysI (L.take k) day).map (Value.int .i64) ++ [.int .i64 (s.time / day)] := by
          unfold daysI
          rw [List.take_add_one, hs]
          simp
        have hfl := floor_any hst hday
        have i2 : (k : Int) < n := by omega
        have one1 : ∀ u ∈ [Value.int .i64 (s.time / day)], u.oneCell' = true := by intro u hu; simp at hu; rw [hu]; rfl
        have n4 : k + 1 ≤ maxLen := by unfold maxLen; omega
        have n5 : (k + 1) * 8 ≤ 140737488355328 := by omega
        obtain ⟨va1, vc1, rfl⟩ := own_slice hown
        have hlo : ∀ x, vblk (.slice va1 k vc1) = some x → w.heap.size ≤ x := fun x e => (own_lt hown x e).1
        have hsz := hkeep.size
        have HAF := Lib.hid (fun (O : Obj) (W2 : World) (K2 : Keep (· = wr.heap.size) (wr.alloc O) W2) => (show W2.ownsRow w.heap.size 2 1 (.slice va1 k vc1) k ((daysI (L.take k) day).map (.int .i64)) ∧ Keep (fun _ => False) w W2 from
          ⟨own_keep (hown.alloc O) K2 (fun g e h => by have := (own_lt hown g e).2; omega), (hkeep.alloc O).trans' K2 (fun _ _ e => e) (fun i hi e => by omega)⟩))
        obtain ⟨td, htd⟩ : ∃ td, td = s.time / day := ⟨_, rfl⟩
        obtain ⟨t, hti⟩ : ∃ t, t = s.time := ⟨_, rfl⟩
        rw [← htd] at hstep hfl one1
        rw [← hti] at hfl a0
        have HLO := Lib.hid hlo
        have ONE := Lib.hid one1; have N4 := Lib.hid n4; have N5 := Lib.hid n5; have HG := Lib.hid hg; have HLT := Lib.hid hlt; have HST := Lib.hid hstep
        have HLDD := Lib.hid hld; have HIA := Lib.hid hia; have HAZ := Lib.hid az; have HA1 := Lib.hid a1; have HA0 := Lib.hid a0; have HFL := Lib.hid hfl
        clear hz hown hkeep hlo one1 n4 n5 hg hlt hk hstep hld hia az a1 a0 hfl hs hs32 hst hA htd hti v4 h32 ht h40 hn
        go_wp2_with (first | (refine wpList_load_run rfl 108 (.tmp 14) rfl _ rfl _ HLDD.out ?_) | (refine wpList_store_box rfl 108 (.tmp 7) (.tmp 15) rfl wr.heap.size A (by rfl) (by rfl) (alloc_new _ _) HIA.out (by rw [HAZ.out]; kernel_rfl) HA1.out ?_; intro W2 hB2 kB2; have c0 := (cell_blk hB2 0).trans HA0.out; obtain ⟨ow2, kp2⟩ := HAF.out _ W2 kB2; have HOW2 := Lib.hid ow2; have HKP2 := Lib.hid kp2; clear ow2 kp2 hB2 kB2))
        refine (HFL.out _).mono ?_
        rintro e w' ⟨rfl, rfl⟩
        go_wp2_with (at_builtin; (refine wpList_append_sl rfl (.tmp 16) (.tmp 21) 89 rfl w.heap.size 2 i0 _ 1 8 Try.underlying89 hi hz0 hz1 hz2 rfl (by decide) (.slice va1 k vc1) k ((daysI (L.take k) day).map (.int .i64)) rfl (HOW2.out.alloc _) _ 1 [.int .i64 td] rfl (sl_made _ 1 1 #[.int .i64 td] 2 rfl (by decide)) ONE.out N4.out N5.out (by have := HKP2.out.size; simp; omega) ?_); intro v8 Y1 hown1 hk1 hb1; obtain ⟨g1, c1, e1, O1, KX1, B1, Z1⟩ := own_next (HKP2.out.alloc _) HLO.out hown1 hk1 hb1; subst e1; clear hown1 hk1 hb1)
        go_roundg (n - (k + 1))
        case measure => have := HG.out; have := HLT.out; omega
        case rel => exact ⟨k + 1, HLT.out, rfl, by go_num, (fun e => by omega), by rw [HST.out]; exact O1.out, KX1.out⟩
      · have hkn : k = n := by omega
        subst hkn
        have htk : L.take k = L := List.take_of_length_le (by omega)
        rw [htk] at hown
        have hD := days_sorted L hday
        rcases Nat.eq_zero_or_pos k with e0 | hpos
        · subst e0
          have e3 := hz rfl
          subst e3
          have hnil : L = [] := List.eq_nil_of_length_eq_zero hn.symm
          have hD0 : DaysOf L day [] := by
            have e : Lib.compact ((L.map (fun s => s.time / day)).mergeSort (fun x y => decide (x ≤ y))).reverse = [] := by rw [hnil]; simp [Lib.compact, compactUpTo]
            rw [e] at hD; exact hD
          have HD := Lib.hid hD0
          have HKP := Lib.hid hkeep
          clear hz hown hkeep hg hlt hk hD hD0 hnil htk hn v4 h32 ht h40
          go_wp2_with fail
          refine (Try.slices_Sort_int_none _ _ _).mono ?_
          rintro e w' ⟨rfl, rfl⟩
          go_wp2_with fail
          refine (Try.slices_Reverse_int_empty _ _ _).mono ?_
          rintro e w' ⟨rfl, rfl⟩
          go_wp2_with fail
          refine (Try.slices_Compact_int_empty _ _ _).mono ?_
          rintro e w' ⟨rfl, rfl⟩
          go_wp2
          go_ret
          exact ⟨_, [], rfl, HD.out, sl_nil _ _, HKP.out, fun b e => by cases e⟩
        · obtain ⟨g, cc, e3, hgb⟩ := own_ptr hown hpos
          subst e3
          obtain ⟨r0, hxl, hkc, hcm⟩ := row_of_owns hown
          obtain ⟨X, hX⟩ : ∃ X, X = daysI L day := ⟨_, rfl⟩
          have eX : (L.map (fun s => s.time / day)) = X := by rw [hX]; rfl
          rw [← hX] at r0 hxl
          rw [eX] at hD
          have z1 : k = (X.mergeSort fun x y => decide (x ≤ y)).length := by simp; exact hxl
          have z2 : k = (X.mergeSort fun x y => decide (x ≤ y)).reverse.length := by simp; exact hxl
          have c1 := sort_row (c := cc) r0 hxl n40
          have C1 := Lib.hid c1
          have C2 := Lib.hid (fun (W : World) (h : RowAt wr W g (X.mergeSort fun x y => decide (x ≤ y))) => rev_row (c := cc) h z1 n40)
          have C3 := Lib.hid (fun (W : World) (h : RowAt wr W g (X.mergeSort fun x y => decide (x ≤ y)).reverse) => comp_row (c := cc) h z2 n40 hkc)
          have zc : (Lib.compact (X.mergeSort fun x y => decide (x ≤ y)).reverse).length ≤ cc := Nat.le_trans (compact_length_le _) (by rw [← z2]; exact hkc)
          obtain ⟨Z, hZ⟩ : ∃ Z, Z = (Lib.compact (X.mergeSort fun x y => decide (x ≤ y)).reverse) := ⟨_, rfl⟩
          rw [← hZ] at hD C3 zc
          have HD := Lib.hid hD; have HKP := Lib.hid hkeep; have HGB := Lib.hid hgb; have HZC := Lib.hid (And.intro zc hcm)
          clear hz hown hkeep hg hlt hk hD htk hn v4 h32 ht h40 r0 hxl hkc hcm hX eX z1 z2 c1 zc hZ hgb
          go_wp2_with fail
          refine C1.out.mono ?_
          rintro e w1 ⟨rfl, h1⟩
          have H1 := Lib.hid h1
          clear h1
          go_wp2_with fail
          refine (C2.out _ H1.out).mono ?_
          rintro e w2 ⟨rfl, h2⟩
          have H2 := Lib.hid h2
          clear h2
          go_wp2_with fail
          refine (C3.out _ H2.out).mono ?_
          rintro e w3 ⟨rfl, ys, h3⟩
          have H3 := Lib.hid h3
          clear h3
          go_wp2
          go_ret
          refine ⟨_, Z, rfl, HD.out, H3.out.sl HZC.out.1 HZC.out.2, HKP.out.trans' H3.out.keep (fun _ _ e => e) (fun i hi e => by have := HGB.out; omega), fun b e => ?_⟩
          have e' : g = b := by simpa [vblk] using e
          have := HGB.out; omega
  · have hd := days_none L hday
    have hd2 : day < 1 := by omega
    have HD := Lib.hid hd
    clear hL h32 ht h40 hd hday
    go_enter Try.func57, Try.ntmps57
    go_wp2
    go_ret
    exact ⟨_, [], rfl, HD.out, sl_nil _ _, Keep.refl _ _, fun b e => by cases e⟩
end Go.Proofs.Ytgnigkghkldcfaa
