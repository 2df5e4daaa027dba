/-
  Snapshots: how one reads; how two are held against each other, part by part.
-/
import Derived.Test.YtgnigkghkldcfaaShelf
import Derived.Test.YtgnigkghkldcfaaBase0
import Derived.Test.YtgnigkghkldcfaaSameL
import Derived.Lib.BytesEntry
import Derived.Laws.Externs
import Derived.StillTailTactics
import Derived.Sort.Grow
import Derived.Laws.Rows
import Derived.Deep.MidRow
import Derived.Shelf.SlSortCmp.Kit1

/-! Snapshots: how one reads; how two are held against each other, part by part. -/
namespace Go.Proofs.Ytgnigkghkldcfaa
open Go.RowKit Go.Proofs Go.Lib

def cmpI (x y : Int) : Int := if x < y then -1 else if y < x then 1 else 0
theorem cmpI64_any (x y : Int) (w : World) : Calls Try.prog 124 #[.int .i64 x, .int .i64 y] w fun e w' => e = .returned (.int .i64 (cmpI x y)) ∧ w = w' := by
  unfold cmpI
  go_enter Try.func124, Try.ntmps124
  go_wp2
  all_goals go_ret
  all_goals exact ⟨by congr <;> omega, rfl⟩
theorem cmpInt_any (x y : Int) (w : World) : Calls Try.prog 127 #[.int .i64 x, .int .i64 y] w fun e w' => e = .returned (.int .i64 (cmpI x y)) ∧ w = w' := by
  unfold cmpI
  go_enter Try.func127, Try.ntmps127
  go_wp2
  all_goals go_ret
  all_goals exact ⟨by congr <;> omega, rfl⟩

theorem less_is : ∀ x y : Bs, Op.bytesLess x y = bytesBefore x y
  | [], [] => rfl
  | [], _ :: _ => rfl
  | _ :: _, [] => rfl
  | a :: r, b :: s => by rw [Op.bytesLess, bytesBefore, less_is r s]
def cmpB (x y : Bs) : Int := if bytesBefore x y then -1 else if bytesBefore y x then 1 else 0
set_option maxRecDepth 100000 in
theorem cmpStr_any (x y : ByteArray) (w : World) : Calls Try.prog 125 #[.string x, .string y] w fun e w' => e = .returned (.int .i64 (cmpB x.data.toList y.data.toList)) ∧ w = w' := by
  have e1 : Op.bytesLess x.toList y.toList = bytesBefore x.data.toList y.data.toList := by rw [less_is, toList_data, toList_data]
  have e2 : Op.bytesLess y.toList x.toList = bytesBefore y.data.toList x.data.toList := by rw [less_is, toList_data, toList_data]
  unfold cmpB
  rw [← e1, ← e2]
  clear e1 e2
  cases h1 : Op.bytesLess x.toList y.toList
  · cases h2 : (x.toList == y.toList)
    · have h3 : Op.bytesLess y.toList x.toList = true := by
        rw [less_is] at h1 ⊢
        rcases before_total (by simpa using h2 : x.toList ≠ y.toList) with q | q
        · rw [q] at h1; cases h1
        · exact q
      rw [h3]
      have H3 := Lib.hid h3
      clear h3
      go_enter Try.func125, Try.ntmps125
      go_wp2
      all_goals go_ret
      all_goals exact ⟨rfl, rfl⟩
    · have h3 : Op.bytesLess y.toList x.toList = false := by
        rw [less_is]
        have : x.toList = y.toList := by simpa using h2
        rw [this]; exact before_irrefl _
      rw [h3]
      clear h3
      go_enter Try.func125, Try.ntmps125
      go_wp2
      all_goals go_ret
      all_goals exact ⟨rfl, rfl⟩
  · go_enter Try.func125, Try.ntmps125
    go_wp2
    go_ret
    exact ⟨rfl, rfl⟩

theorem compare_is : ∀ a b : Bs, compareBytes a b = cmpB a b
  | [], [] => rfl
  | [], _ :: _ => rfl
  | _ :: _, [] => rfl
  | a :: r, b :: s => by
    have ih := compare_is r s
    unfold compareBytes cmpB bytesBefore
    unfold cmpB at ih
    by_cases h1 : a < b
    · simp [h1]
    · by_cases h2 : b < a
      · have h3 : ¬ a = b := fun e => by subst e; exact h1 h2
        simp [h1, h2, h3]
      · have h3 : a = b := UInt8.le_antisymm (UInt8.not_lt.1 h2) (UInt8.not_lt.1 h1)
        subst h3
        simp [h1, ih]

theorem run_bytesOf {P : Program} {w : World} {v : Value} {l : Bs} (h : BytesAt w v l) : (Extern.Bytes.bytesOf v).run P w = .ok ⟨l.toArray⟩ w := by
  obtain ⟨h1, a, c, rfl, h2, h3, h4, h5⟩ := id h
  cases a with
  | none =>
    have h0 : l = [] := by
      have : c = 0 := h4 rfl
      exact List.length_eq_zero_iff.1 (by omega)
    subst h0
    rfl
  | some a =>
    have hl := run_loadBytesX (P := P) w (l.map fun c => (c.toNat : Int)) a .empty (fun j x hj => Sl.cells h j _ (by
      rw [List.getElem?_map] at hj
      unfold bytesV
      rw [List.getElem?_map]
      cases hk : l[j]? with
      | none => rw [hk] at hj; cases hj
      | some c => rw [hk] at hj; simp at hj; simp [hj]))
    rw [List.length_map] at hl
    have hb : bytesOf (l.map fun c => (c.toNat : Int)) = l := by
      unfold bytesOf
      rw [List.map_map]
      conv => rhs; rw [← List.map_id l]
      refine List.map_congr_left (fun c _ => ?_)
      simp
    rw [hb] at hl
    have he : (⟨ByteArray.empty.data ++ l.toArray⟩ : ByteArray) = ⟨l.toArray⟩ := by
      apply ByteArray.ext
      show (#[] : Array UInt8) ++ l.toArray = l.toArray
      simp
    rw [he] at hl
    exact hl
theorem run_bcompare {P : Program} {w : World} {x y : Value} {a b : Bs} (hx : BytesAt w x a) (hy : BytesAt w y b) : (Extern.BytealgCompare.compare #[x, y]).run P w = .ok (.int .i64 (cmpB a b)) w := by
  change Sem.run P (do pure (goInt (Extern.BytealgCompare.cmp (← Extern.Bytes.bytesOf x) (← Extern.Bytes.bytesOf y)))) w = _
  simp only [Sem.run_bind, Sem.run_pure, run_bytesOf hx, run_bytesOf hy, Result.andThen]
  rw [cmp_eq, compare_is]
  rfl

set_option maxRecDepth 100000 in
theorem bytesCompare_any {w : World} {x y : Value} {a b : Bs} (hx : BytesAt w x a) (hy : BytesAt w y b) : Calls Try.prog 126 #[x, y] w fun e w' => e = .returned (.int .i64 (cmpB a b)) ∧ w = w' := by
  obtain ⟨xa, xc, rfl⟩ : ∃ p k, x = .slice p a.length k := let ⟨_, p, k, e, _⟩ := hx; ⟨p, k, e⟩
  obtain ⟨ya, yc, rfl⟩ : ∃ p k, y = .slice p b.length k := let ⟨_, p, k, e, _⟩ := hy; ⟨p, k, e⟩
  have hr := run_callFunc_extern Try.func149 (by kernel_rfl) (by kernel_rfl) (by kernel_rfl) (e := Extern.BytealgCompare.compare) (by kernel_rfl) #[.slice xa a.length xc, .slice ya b.length yc] w
  rw [run_bcompare hx hy] at hr
  simp only [Result.andThen] at hr
  clear hx hy
  go_enter Try.func126, Try.ntmps126
  go_wp2
  go_ret
  exact ⟨rfl, rfl⟩

/-- the first of a row that is not 0, or 0 -/
def orI : List Int → Int
  | [] => 0
  | x :: r => if x = 0 then orI r else x
theorem orI_append_zero : ∀ (l r : List Int), (∀ x ∈ l, x = 0) → orI (l ++ r) = orI r
  | [], _, _ => rfl
  | x :: l, r, h => by
    rw [List.cons_append, orI, if_pos (h x (List.mem_cons_self ..))]
    exact orI_append_zero l r (fun y hy => h y (List.mem_cons_of_mem _ hy))

set_option maxRecDepth 100000 in
theorem cmpOr_any {w : World} {v : Value} {l : List Int} (hv : Sl w 1 v l.length (l.map (.int .i64))) : Calls Try.prog 123 #[v] w fun e w' => e = .returned (.int .i64 (orI l)) ∧ w = w' := by
  obtain ⟨va, vc, rfl⟩ : ∃ p k, v = .slice p l.length k := let ⟨_, p, k, e, _⟩ := hv; ⟨p, k, e⟩
  have HV := Lib.hid hv
  obtain ⟨N, hN⟩ : ∃ N, N = l.length := ⟨_, rfl⟩
  have HN := Lib.hid hN
  have hNm : (N : Int) ≤ 9223372036854775807 := by
    obtain ⟨_, a, c, e, h2, h3, _⟩ := hv
    cases e
    unfold maxLen at h3
    omega
  rw [← hN]
  clear hv hN
  go_enter Try.func123, Try.ntmps123
  go_wp2
  go_loop [8] (fun s8 => ∃ k : Nat, k ≤ N ∧ s8 = .int .i64 k ∧ Hid (∀ x ∈ l.take k, x = 0)) (fun s8 => N - (intOf s8).toNat)
  case atStart => exact ⟨0, Nat.zero_le _, rfl, (show Hid _ from fun x hx => by simp at hx)⟩
  case round =>
    obtain ⟨k, hk, rfl, HZ⟩ := hrel
    by_cases hlt : k < N
    · obtain ⟨x, hx⟩ : ∃ x, l[k]? = some x := ⟨_, List.getElem?_eq_getElem (by rw [← HN.out]; exact hlt)⟩
      obtain ⟨vb, vo, vc', ev, v1, v2⟩ := Sl.base HV.out (by rw [← HN.out]; omega)
      cases ev
      have cx : w.cell? ⟨vb, vo + k, none⟩ = some (.int .i64 x) := Sl.at1 HV.out (by simp [hx])
      rw [← HN.out] at v1
      unfold maxLen at v2
      have i1 : (0 : Int) ≤ k := by omega
      have i2 : (k : Int) < N := by omega
      have HX := Lib.hid hx
      clear hx
      by_cases h0 : x = 0
      · have h0b : (x == 0) = true := by simpa using h0
        have H0 := Lib.hid h0
        subst h0
        go_wp2
        go_round
        case rel => exact ⟨k + 1, by omega, by go_num, (show Hid _ from fun y hy => by
          rw [List.take_add_one, HX.out] at hy
          simp at hy
          rcases hy with hy | hy
          · exact HZ.out y hy
          · exact hy)⟩
        case measure => simp [intOf]; omega
      · have h0b : (x == 0) = false := by simpa using h0
        have HO : Hid (orI l = x) := by
          show _ = _
          have e : l = l.take k ++ x :: l.drop (k + 1) := by
            have h1 : k < l.length := (List.getElem?_eq_some_iff.1 HX.out).1
            have h2 : l[k] = x := (List.getElem?_eq_some_iff.1 HX.out).2
            rw [← h2, ← List.drop_eq_getElem_cons h1, List.take_append_drop]
          rw [e, orI_append_zero _ _ HZ.out, orI, if_neg h0]
        clear h0
        go_wp2
        go_ret
        refine ⟨?_, rfl⟩
        rw [HO.out]; rfl
    · have HO : Hid (orI l = 0) := by
        show _ = _
        have h1 := orI_append_zero l [] (fun x hx => HZ.out x (by rw [List.take_of_length_le (by rw [← HN.out]; omega)]; exact hx))
        rw [List.append_nil] at h1
        exact h1
      go_wp2
      go_ret
      refine ⟨?_, rfl⟩
      rw [HO.out]; rfl
end Go.Proofs.Ytgnigkghkldcfaa

/-! Snapshots: which of two is ahead. -/
namespace Go.Proofs.Ytgnigkghkldcfaa
open Go.RowKit Go.Proofs Go.Lib

structure SnapR where
  time : Int
  host : Bs
  tag : Bs
  root : Bs
  files : Int
  bytes : Int

def snapCells (s : SnapR) : List Value := .int .i64 s.time :: strV s.host :: strV s.tag :: (bytesV s.root ++ [.int .i64 s.files, .int .i64 s.bytes])
theorem bytesV_len (l : Bs) : (bytesV l).length = l.length := by simp [bytesV]
theorem snapCells_len {s : SnapR} (h : s.root.length = 32) : (snapCells s).length = 37 := by simp [snapCells, bytesV_len, h]
theorem snap_at {s : SnapR} (h : s.root.length = 32) : (snapCells s)[35]? = some (.int .i64 s.files) ∧ (snapCells s)[36]? = some (.int .i64 s.bytes) ∧ ∀ j, j < 32 → (snapCells s)[3 + j]? = (bytesV s.root)[j]? := by
  refine ⟨?_, ?_, fun j hj => ?_⟩
  · unfold snapCells
    rw [show (35 : Nat) = 32 + 1 + 1 + 1 from rfl, List.getElem?_cons_succ, List.getElem?_cons_succ, List.getElem?_cons_succ, List.getElem?_append_right (by rw [bytesV_len, h]; exact Nat.le_refl _)]
    simp [bytesV_len, h]
  · unfold snapCells
    rw [show (36 : Nat) = 33 + 1 + 1 + 1 from rfl, List.getElem?_cons_succ, List.getElem?_cons_succ, List.getElem?_cons_succ, List.getElem?_append_right (by rw [bytesV_len, h]; decide)]
    simp [bytesV_len, h]
  · unfold snapCells
    rw [show 3 + j = j + 1 + 1 + 1 by omega, List.getElem?_cons_succ, List.getElem?_cons_succ, List.getElem?_cons_succ, List.getElem?_append_left (by rw [bytesV_len, h]; exact hj)]

def cmpS (a b : SnapR) : Int := orI [cmpI a.time b.time, cmpB a.host b.host, cmpB a.tag b.tag, cmpB a.root b.root, cmpI a.files b.files, cmpI a.bytes b.bytes]

/-- a snapshot in a block of its own -/
structure SnapBox (w : World) (b : Nat) (s : SnapR) : Prop where
  c0 : w.cell? ⟨b, 0, none⟩ = some (.int .i64 s.time)
  c1 : w.cell? ⟨b, 1, none⟩ = some (strV s.host)
  c2 : w.cell? ⟨b, 2, none⟩ = some (strV s.tag)
  c35 : w.cell? ⟨b, 35, none⟩ = some (.int .i64 s.files)
  c36 : w.cell? ⟨b, 36, none⟩ = some (.int .i64 s.bytes)
  root : BytesAt w (.slice (some ⟨b, 3, none⟩) 32 32) s.root
theorem SnapBox.of {w : World} {b : Nat} {s : SnapR} {T : TypeId} {f : Nat × Nat} (h : s.root.length = 32) (hb : w.heap[b]? = some (.cells (snapCells s).toArray T f)) : SnapBox w b s := by
  obtain ⟨h35, h36, hr⟩ := snap_at h
  refine ⟨?_, ?_, ?_, ?_, ?_, ?_⟩
  · rw [cell_blk hb]; rfl
  · rw [cell_blk hb]; rfl
  · rw [cell_blk hb]; rfl
  · rw [cell_blk hb, List.getElem?_toArray, h35]
  · rw [cell_blk hb, List.getElem?_toArray, h36]
  · unfold BytesAt
    rw [h]
    refine ⟨by rw [bytesV_len, h], some ⟨b, 3, none⟩, 32, rfl, Nat.le_refl _, by decide, (fun e => by cases e), fun _ => ⟨b, 3, rfl, fun j hj => ?_⟩⟩
    rw [cell_blk hb, List.getElem?_toArray, hr j (by omega)]

theorem still_of {P : Program} {f : FuncId} {args : Array Value} {w : World} {v : Value} (h : Calls P f args w fun e w' => e = .returned v ∧ w = w') : Calls P f args w fun e w' => e = .returned v ∧ w' = w := h.mono (fun _ _ ⟨h1, h2⟩ => ⟨h1, h2.symm⟩)

theorem ints_new (W : World) (l : List Int) (hl : l.length ≤ maxLen) : Sl (W.alloc (.cells (l.map (Value.int .i64)).toArray 3)) 1 (.slice (some ⟨W.heap.size, 0, none⟩) l.length l.length) l.length (l.map (.int .i64)) := by
  refine ⟨by simp, some ⟨W.heap.size, 0, none⟩, l.length, rfl, Nat.le_refl _, hl, (fun e => by cases e), fun _ => ⟨W.heap.size, 0, rfl, fun j hj => ?_⟩⟩
  rw [cell_blk (alloc_new W _), Nat.zero_add]
  simp
theorem grown_three (w : World) (A B C : Obj) : (((w.alloc A).alloc B).drew.alloc C) = Sort.grow (w.drewN 1) #[A, B, C] := by
  rw [Sort.alloc_eq_grow, Sort.alloc_eq_grow, Sort.alloc_eq_grow, Sort.grow_grow, Sort.drew_grow, Sort.grow_grow]
  rfl

set_option maxRecDepth 100000 in
set_option maxHeartbeats 2000000 in
theorem compare_any {a b : SnapR} (ha : a.root.length = 32) (hb : b.root.length = 32) (w : World) :
    Calls Try.prog 102 #[.agg (snapCells a).toArray, .agg (snapCells b).toArray] w fun e w' => e = .returned (.int .i64 (cmpS a b)) ∧ ∃ q os, w' = Sort.grow (w.drewN q) os := by
  obtain ⟨A, hAe⟩ : ∃ A, A = (snapCells a).toArray := ⟨_, rfl⟩
  obtain ⟨B, hBe⟩ : ∃ B, B = (snapCells b).toArray := ⟨_, rfl⟩
  have hA : SnapBox ((w.alloc (.cells A 108)).alloc (.cells B 108)).drew w.heap.size a := SnapBox.of ha (by rw [← hAe]; exact drew_blk (alloc_blk (alloc_new _ _) _))
  have hB : SnapBox ((w.alloc (.cells A 108)).alloc (.cells B 108)).drew (w.heap.size + 1) b := SnapBox.of hb (by
    have := alloc_new (w.alloc (.cells A 108)) (.cells B 108)
    rw [World.size_alloc] at this
    rw [← hBe]
    exact drew_blk this)
  obtain ⟨a0, a1, a2, a35, a36, aR⟩ := hA
  obtain ⟨b0, b1, b2, b35, b36, bR⟩ := hB
  rw [← hAe, ← hBe]
  clear hAe hBe
  obtain ⟨at', ah, ag, ar, af, ab⟩ := a
  obtain ⟨bt, bh, bg, br, bf, bb⟩ := b
  obtain ⟨R, hR⟩ : ∃ R, R = cmpS ⟨at', ah, ag, ar, af, ab⟩ ⟨bt, bh, bg, br, bf, bb⟩ := ⟨_, rfl⟩
  rw [← hR]
  have HR := Lib.hid hR
  dsimp only [strV] at a0 a1 a2 a35 a36 aR b0 b1 b2 b35 b36 bR
  have hfin := grown_three w (.cells A 108) (.cells B 108) (.cells #[.int .i64 (cmpI at' bt), .int .i64 (cmpB ah bh), .int .i64 (cmpB ag bg), .int .i64 (cmpB ar br), .int .i64 (cmpI af bf), .int .i64 (cmpI ab bb)] 3)
  have HFIN := Lib.hid hfin
  have hz : ((w.alloc (.cells A 108)).alloc (.cells B 108)).drew.heap.size = w.heap.size + 1 + 1 := by simp
  have HZ := Lib.hid hz
  obtain ⟨W2, hW2⟩ : ∃ W2, W2 = (w.alloc (.cells A 108)).alloc (.cells B 108) := ⟨_, rfl⟩
  rw [← hW2] at a0 a1 a2 a35 a36 aR b0 b1 b2 b35 b36 bR HFIN HZ
  have AR := Lib.hid aR; have BR := Lib.hid bR; have HW2 := Lib.hid hW2
  clear aR bR ha hb hR hfin hz hW2
  have mixed : Try.prog.follows Departure.mixedOrders = true := by kernel_rfl
  go_enter Try.func102, Try.ntmps102
  go_wp2
  rw [← HW2.out]
  refine wp_region_still_tail 30 (by kernel_rfl) (by kernel_rfl) ?_
  simp only [List.take_succ_cons, List.take_zero, List.drop_succ_cons, List.drop_zero]
  iterate 4 still_step
  still_call (still_of (cmpI64_any _ _ _))
  iterate 4 still_step
  still_call (still_of (cmpStr_any _ _ _))
  iterate 4 still_step
  still_call (still_of (cmpStr_any _ _ _))
  iterate 4 still_step
  still_call (still_of (bytesCompare_any AR.out BR.out))
  iterate 4 still_step
  still_call (still_of (cmpInt_any _ _ _))
  iterate 4 still_step
  still_call (still_of (cmpI64_any _ _ _))
  refine wpStill_nil ?_
  clear a0 a1 a2 a35 a36 b0 b1 b2 b35 b36
  go_wp2_with fail
  refine (cmpOr_any (ints_new W2.drew [cmpI at' bt, cmpB ah bh, cmpB ag bg, cmpB ar br, cmpI af bf, cmpI ab bb] (by show 6 ≤ maxLen; decide))).mono ?_
  rintro e w' ⟨rfl, rfl⟩
  rw [show orI [cmpI at' bt, cmpB ah bh, cmpB ag bg, cmpB ar br, cmpI af bf, cmpI ab bb] = R from HR.out.symm]
  go_wp2
  go_ret
  exact ⟨rfl, 1, _, HFIN.out⟩

theorem grown_two (w : World) (A B : Obj) (q : Nat) (os : Array Obj) : Sort.grow (((w.alloc A).alloc B).drewN q) os = Sort.grow (w.drewN q) (#[A, B] ++ os) := by
  rw [Sort.alloc_eq_grow (w.alloc A), Sort.alloc_eq_grow w, Sort.grow_grow]
  show Sort.grow (Sort.grow (w.drewN q) (#[A] ++ #[B])) os = _
  rw [Sort.grow_grow]
  rfl
theorem infoSnap : (Try.prog.info? 108).map (·.size) = some 37 := by kernel_rfl

set_option maxRecDepth 100000 in
set_option maxHeartbeats 2000000 in
theorem less_any {a b : SnapR} (ha : a.root.length = 32) (hb : b.root.length = 32) (w : World) :
    Calls Try.prog 116 #[.agg (snapCells a).toArray, .agg (snapCells b).toArray] w fun e w' => e = .returned (.bool (decide (cmpS a b < 0))) ∧ ∃ q os, w' = Sort.grow (w.drewN q) os := by
  have HC := Lib.hid (fun W => compare_any ha hb W)
  have hA37 : (snapCells a).toArray.size = 37 := by rw [List.size_toArray, snapCells_len ha]
  have hB37 : (snapCells b).toArray.size = 37 := by rw [List.size_toArray, snapCells_len hb]
  obtain ⟨A, hAe⟩ : ∃ A, A = (snapCells a).toArray := ⟨_, rfl⟩
  obtain ⟨B, hBe⟩ : ∃ B, B = (snapCells b).toArray := ⟨_, rfl⟩
  rw [← hAe, ← hBe] at HC
  rw [← hAe] at hA37; rw [← hBe] at hB37
  rw [← hAe, ← hBe]
  have lA : ((w.alloc (.cells A 108)).alloc (.cells B 108)).heap[w.heap.size]? = some (.cells A 108 (0, 0)) := alloc_blk (alloc_new _ _) _
  have lB : ((w.alloc (.cells A 108)).alloc (.cells B 108)).heap[w.heap.size + 1]? = some (.cells B 108 (0, 0)) := by
    have := alloc_new (w.alloc (.cells A 108)) (.cells B 108)
    rw [World.size_alloc] at this
    exact this
  have iA : (Try.prog.info? 108).map (·.size) = some A.size := by rw [hA37]; exact infoSnap
  have iB : (Try.prog.info? 108).map (·.size) = some B.size := by rw [hB37]; exact infoSnap
  obtain ⟨c, hc⟩ : ∃ c, c = cmpS a b := ⟨_, rfl⟩
  rw [← hc] at HC ⊢
  have HW := Lib.hid (grown_two w (.cells A 108) (.cells B 108))
  have LA := Lib.hid lA; have LB := Lib.hid lB; have IA := Lib.hid iA; have IB := Lib.hid iB
  clear hAe hBe ha hb hc lA lB iA iB hA37 hB37
  go_enter Try.func116, Try.ntmps116
  go_wp2_with (first | (refine wpList_load_row rfl 108 (.tmp 2) rfl w.heap.size (by rfl) 108 A (0, 0) _ LA.out Try.underlying108 rfl IA.out ?_) | (refine wpList_load_row rfl 108 (.tmp 3) rfl (w.heap.size + 1) (by rfl) 108 B (0, 0) _ LB.out Try.underlying108 rfl IB.out ?_))
  refine (HC.out _).mono ?_
  rintro e w' ⟨rfl, q, os, hw⟩
  rw [HW.out] at hw
  have HF : Hid (∃ q os, w' = Sort.grow (w.drewN q) os) := ⟨q, _, hw⟩
  clear hw
  go_wp2
  go_ret
  exact ⟨rfl, HF.out⟩
end Go.Proofs.Ytgnigkghkldcfaa

/-! retain.order: what tells which of two places goes ahead. -/
namespace Go.Proofs.Ytgnigkghkldcfaa
open Go.RowKit Go.Proofs Go.Lib

/-- a slice of snapshots -/
def SnapsAt (w : World) (v : Value) (L : List SnapR) : Prop := Sl w 37 v L.length (L.flatMap snapCells)
def Snaps32 (L : List SnapR) : Prop := ∀ s ∈ L, s.root.length = 32
theorem flat37 {L : List SnapR} (h : Snaps32 L) : ∀ {k : Nat} {s : SnapR}, L[k]? = some s → ∀ j u, (snapCells s)[j]? = some u → (L.flatMap snapCells)[k * 37 + j]? = some u := by
  induction L with
  | nil => intro k s hk; simp at hk
  | cons a r ih =>
    intro k s hk j u hu
    have ha : (snapCells a).length = 37 := snapCells_len (h a (List.mem_cons_self ..))
    cases k with
    | zero =>
      simp at hk; subst hk
      have hj : j < 37 := by rw [← ha]; exact (List.getElem?_eq_some_iff.1 hu).1
      rw [List.flatMap_cons, List.getElem?_append_left (by omega), Nat.zero_mul, Nat.zero_add]
      exact hu
    | succ k =>
      simp only [List.getElem?_cons_succ] at hk
      rw [List.flatMap_cons, List.getElem?_append_right (by omega), show (k + 1) * 37 + j - (snapCells a).length = k * 37 + j by omega]
      exact ih (fun s hs => h s (List.mem_cons_of_mem _ hs)) hk j u hu
theorem SnapsAt.range {w : World} {b o n c : Nat} {L : List SnapR} (h : SnapsAt w (.slice (some ⟨b, o, none⟩) n c) L) (h32 : Snaps32 L) {k : Nat} {s : SnapR} (hk : L[k]? = some s) : w.rangeAt b (o + k * 37) (snapCells s) := by
  intro j v hv
  obtain ⟨h1, a, c', e, _, _, _, h6⟩ := h
  simp only [Value.slice.injEq] at e
  obtain ⟨rfl, _, rfl⟩ := e
  have hkl : k < L.length := (List.getElem?_eq_some_iff.1 hk).1
  have hj : j < 37 := by rw [← snapCells_len (h32 s (List.mem_of_getElem? hk))]; exact (List.getElem?_eq_some_iff.1 hv).1
  obtain ⟨b', o', e2, h7⟩ := h6 (by omega)
  cases e2
  have hlt : k * 37 + j < L.length * 37 := by have := Nat.mul_le_mul_right 37 (show k + 1 ≤ L.length from hkl); omega
  rw [Nat.add_assoc, h7 _ hlt]
  exact flat37 h32 hk j v hv
theorem SnapsAt.keep {F : Nat → Prop} {w w' : World} {v : Value} {L : List SnapR} (h : SnapsAt w v L) (hk : Keep F w w') (hF : ∀ i, i < w.heap.size → ¬ F i) : SnapsAt w' v L :=
  Sl.keep h hk (fun b hn e => hF b (Sl.lt h (by decide) hn e))
theorem SnapsAt.load {w : World} {b o n c : Nat} {L : List SnapR} (h : SnapsAt w (.slice (some ⟨b, o, none⟩) n c) L) (h32 : Snaps32 L) {k : Nat} {s : SnapR} (hk : L[k]? = some s) :
    (Instr.loadAt 108 (.pointer (some ⟨b, o + k * 37, none⟩))).run Try.prog w = .ok (.agg (snapCells s).toArray) w :=
  run_loadAt_mid w b (o + k * 37) 108 (snapCells s) _ (h.range h32 hk) Try.underlying108 rfl (by rw [snapCells_len (h32 s (List.mem_of_getElem? hk))]; exact infoSnap)

/-- a load of many cells, within the reading head of a region -/
theorem wpStill_load {P : Program} {ops : Array Oper} {w : World} {Q : Act → Prop} {rest : List Oper} {o : Oper} {a : Act} (hw : Region.wanted o (yielded ops a.tmps) = true) (ty : TypeId) (x : Operand) (ho : o.op = .load ty x) {ad : Addr} (hx : a.eval x = .pointer (some ad)) {v : Value}
    (hr : (Instr.loadAt ty (.pointer (some ad))).run P w = .ok v w) (h : wpStill P ops w Q rest (a.put o.dst v)) : wpStill P ops w Q (o :: rest) a := by
  unfold wpStill
  rw [if_pos hw]
  unfold Oper.still execOp
  simp only [ho, hx, Sem.run_bind, hr, Result.andThen_ok, Sem.run_pure, Oper.stillUpon]
  exact ⟨trivial, h⟩

theorem grown_trans {w w1 w2 : World} {q1 q2 : Nat} {o1 o2 : Array Obj} (h1 : w1 = Sort.grow (w.drewN q1) o1) (h2 : w2 = Sort.grow (w1.drewN q2) o2) : w2 = Sort.grow (w.drewN (q1 + q2)) (o1 ++ o2) := by
  rw [h2, h1]
  show Sort.grow (Sort.grow ((w.drewN q1).drewN q2) o1) o2 = _
  rw [Sort.grow_grow, World.drewN_drewN]

def cmpIx (L : List SnapR) (x y : Nat) : Int := match L[x]?, L[y]? with
  | some a, some b => if cmpS a b < 0 then -1 else if cmpS b a < 0 then 1 else 0
  | _, _ => 0

set_option maxRecDepth 100000 in
set_option maxHeartbeats 2000000 in
theorem order1_any {w : World} {bx : Nat} {v : Value} {L : List SnapR} (hb : w.cell? ⟨bx, 0, none⟩ = some v) (hL : SnapsAt w v L) (h32 : Snaps32 L) {x y : Nat} (hx : x < L.length) (hy : y < L.length) :
    Calls Try.prog 115 #[.int .i64 x, .int .i64 y, .pointer (some ⟨bx, 0, none⟩)] w fun e w' => e = .returned (.int .i64 (cmpIx L x y)) ∧ ∃ q os, w' = Sort.grow (w.drewN q) os := by
  obtain ⟨a, ha⟩ : ∃ a, L[x]? = some a := ⟨_, List.getElem?_eq_getElem hx⟩
  obtain ⟨b, hb'⟩ : ∃ b, L[y]? = some b := ⟨_, List.getElem?_eq_getElem hy⟩
  have hci : cmpIx L x y = if cmpS a b < 0 then -1 else if cmpS b a < 0 then 1 else 0 := by unfold cmpIx; rw [ha, hb']
  rw [hci]
  have ra := h32 a (List.mem_of_getElem? ha)
  have rb := h32 b (List.mem_of_getElem? hb')
  obtain ⟨vb, vo, vc, ev, v1, v2⟩ := Sl.base hL (by omega)
  subst ev
  have H1 := Lib.hid (fun W => less_any ra rb W)
  have H2 := Lib.hid (fun W => less_any rb ra W)
  have ld : ∀ (W : World), (∃ q os, W = Sort.grow (w.drewN q) os) → W.drew.cell? ⟨bx, 0, none⟩ = some (.slice (some ⟨vb, vo, none⟩) L.length vc) ∧
      (Instr.loadAt 108 (.pointer (some ⟨vb, vo + x * 37, none⟩))).run Try.prog W.drew = .ok (.agg (snapCells a).toArray) W.drew ∧ (Instr.loadAt 108 (.pointer (some ⟨vb, vo + y * 37, none⟩))).run Try.prog W.drew = .ok (.agg (snapCells b).toArray) W.drew := by
    rintro W ⟨q, os, rfl⟩
    have kk : Keep (fun _ => False) w (Sort.grow (w.drewN q) os).drew := ⟨rfl, rfl, rfl, by show _ ≤ (Sort.grow _ _).heap.size; rw [Sort.size_grow]; exact Nat.le_add_right _ _, fun k hk _ => by
      show (Sort.grow (w.drewN q) os).heap[k]? = _
      rw [Sort.heap_grow_old _ _ (by exact hk)]; rfl⟩
    have hl := World.block_lt_of_cell? (a := ⟨bx, 0, none⟩) w hb
    refine ⟨?_, (hL.keep kk (fun _ _ e => e)).load h32 ha, (hL.keep kk (fun _ _ e => e)).load h32 hb'⟩
    exact (World.cell?_of_block (kk.block bx hl id)).trans hb
  have LD := Lib.hid ld
  obtain ⟨A, hA⟩ : ∃ A, A = (snapCells a).toArray := ⟨_, rfl⟩
  obtain ⟨B, hB⟩ : ∃ B, B = (snapCells b).toArray := ⟨_, rfl⟩
  rw [← hA, ← hB] at H1 H2 LD
  obtain ⟨c1, hc1⟩ : ∃ c, c = cmpS a b := ⟨_, rfl⟩
  obtain ⟨c2, hc2⟩ : ∃ c, c = cmpS b a := ⟨_, rfl⟩
  rw [← hc1] at H1; rw [← hc2] at H2
  rw [← hc1, ← hc2]
  unfold maxLen at v2
  have x1 : (0 : Int) ≤ x := by omega
  have x2 : (x : Int) < L.length := by omega
  have y1 : (0 : Int) ≤ y := by omega
  have y2 : (y : Int) < L.length := by omega
  have v1' : L.length ≤ vc := v1
  obtain ⟨N, hN⟩ : ∃ N, N = L.length := ⟨_, rfl⟩
  rw [← hN] at LD v1' x2 y2
  have mixed : Try.prog.follows Departure.mixedOrders = true := by kernel_rfl
  obtain ⟨d0, d1', d2'⟩ := LD.out w ⟨0, #[], by rw [Sort.grow_empty]; rfl⟩
  have d1 : (Instr.loadAt 108 (.pointer (some ⟨vb, vo + x * 37, none⟩))).run Try.prog { w with drawn := w.drawn + 1 } = .ok (.agg A) { w with drawn := w.drawn + 1 } := d1'
  have d2 : (Instr.loadAt 108 (.pointer (some ⟨vb, vo + y * 37, none⟩))).run Try.prog { w with drawn := w.drawn + 1 } = .ok (.agg B) { w with drawn := w.drawn + 1 } := d2'
  clear d1' d2'
  clear ha hb' hci ra rb hL h32 hx hy hb ld hA hB hc1 hc2 hN v1
  by_cases hl1 : c1 < 0
  · rw [if_pos hl1]
    have e1 : decide (c1 < 0) = true := decide_eq_true hl1
    rw [e1] at H1
    clear e1 hl1
    go_enter Try.func115, Try.ntmps115
    go_wp2_with fail
    refine wp_region_still_tail 8 (by kernel_rfl) (by kernel_rfl) ?_
    simp only [List.take_succ_cons, List.take_zero, List.drop_succ_cons, List.drop_zero]
    iterate 3 still_step
    refine wpStill_load (by rfl) 108 (.tmp 9) (by rfl) (by rfl) d1 ?_
    iterate 3 still_step
    refine wpStill_load (by rfl) 108 (.tmp 13) (by rfl) (by rfl) d2 ?_
    refine wpStill_nil ?_
    go_wp2_with fail
    refine (H1.out _).mono ?_
    rintro e w' ⟨rfl, q, os, hw⟩
    have HF : Hid (∃ q os, w' = Sort.grow (w.drewN q) os) := ⟨1 + q, os, by rw [hw]; congr 1; exact World.drewN_drewN ..⟩
    clear hw d0 d1 d2
    go_wp2
    go_ret
    exact ⟨rfl, HF.out⟩
  · rw [if_neg hl1]
    have e1 : decide (c1 < 0) = false := decide_eq_false hl1
    rw [e1] at H1
    clear e1 hl1
    by_cases hl2 : c2 < 0
    case' pos => have e2 : decide (c2 < 0) = true := decide_eq_true hl2
    case' neg => have e2 : decide (c2 < 0) = false := decide_eq_false hl2
    all_goals first | rw [if_pos hl2] | rw [if_neg hl2]
    all_goals rw [e2] at H2
    all_goals clear e2 hl2
    all_goals go_enter Try.func115, Try.ntmps115
    all_goals go_wp2_with fail
    all_goals refine wp_region_still_tail 8 (by kernel_rfl) (by kernel_rfl) ?_
    all_goals simp only [List.take_succ_cons, List.take_zero, List.drop_succ_cons, List.drop_zero]
    all_goals iterate 3 still_step
    all_goals refine wpStill_load (by rfl) 108 (.tmp 9) (by rfl) (by rfl) d1 ?_
    all_goals iterate 3 still_step
    all_goals refine wpStill_load (by rfl) 108 (.tmp 13) (by rfl) (by rfl) d2 ?_
    all_goals refine wpStill_nil ?_
    all_goals go_wp2_with fail
    all_goals refine (H1.out _).mono ?_
    all_goals rintro e w1 ⟨rfl, q1, os1, hw1⟩
    all_goals have hw1' : w1 = Sort.grow (w.drewN (1 + q1)) os1 := by rw [hw1]; congr 1; exact World.drewN_drewN ..
    all_goals obtain ⟨b0, b1', b2'⟩ := LD.out w1 ⟨_, _, hw1'⟩
    all_goals have b1 : (Instr.loadAt 108 (.pointer (some ⟨vb, vo + x * 37, none⟩))).run Try.prog { w1 with drawn := w1.drawn + 1 } = .ok (.agg A) { w1 with drawn := w1.drawn + 1 } := b1'
    all_goals have b2 : (Instr.loadAt 108 (.pointer (some ⟨vb, vo + y * 37, none⟩))).run Try.prog { w1 with drawn := w1.drawn + 1 } = .ok (.agg B) { w1 with drawn := w1.drawn + 1 } := b2'
    all_goals have HW := Lib.hid hw1'
    all_goals clear b1' b2' hw1 hw1' d0 d1 d2
    all_goals go_wp2_with fail
    all_goals refine wp_region_still_tail 8 (by kernel_rfl) (by kernel_rfl) ?_
    all_goals simp only [List.take_succ_cons, List.take_zero, List.drop_succ_cons, List.drop_zero]
    all_goals iterate 3 still_step
    all_goals refine wpStill_load (by rfl) 108 (.tmp 19) (by rfl) (by rfl) b2 ?_
    all_goals iterate 3 still_step
    all_goals refine wpStill_load (by rfl) 108 (.tmp 23) (by rfl) (by rfl) b1 ?_
    all_goals refine wpStill_nil ?_
    all_goals go_wp2_with fail
    all_goals refine (H2.out _).mono ?_
    all_goals rintro e w2 ⟨rfl, q2, os2, hw2⟩
    all_goals have hw2' : w2 = Sort.grow (w1.drewN (1 + q2)) os2 := by rw [hw2]; congr 1; exact World.drewN_drewN ..
    all_goals have HF : Hid (∃ q os, w2 = Sort.grow (w.drewN q) os) := ⟨_, _, grown_trans HW.out hw2'⟩
    all_goals clear hw2 hw2' b0 b1 b2
    all_goals go_wp2
    all_goals go_ret
    all_goals exact ⟨rfl, HF.out⟩
end Go.Proofs.Ytgnigkghkldcfaa
