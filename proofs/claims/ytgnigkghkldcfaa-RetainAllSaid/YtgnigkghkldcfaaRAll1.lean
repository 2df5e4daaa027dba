/-
  coldstorelaw19.RetainAll, ahead of it: whether two snapshots are one; three policies in a row; how many go.
-/
import Derived.Test.YtgnigkghkldcfaaSortS
import Derived.Test.YtgnigkghkldcfaaRTags
import Derived.Stop.BytesEq
namespace Go.Proofs.Ytgnigkghkldcfaa
open Go.RowKit Go.Proofs Go.Lib Go.Maps Go.Sort Go.Shelf

def eqS (a b : SnapR) : Bool := a.time == b.time && (a.host == b.host && (a.tag == b.tag && (a.root == b.root && (a.files == b.files && a.bytes == b.bytes))))
theorem eqS_self (a : SnapR) : eqS a a = true := by simp [eqS]

theorem id_part {s : SnapR} (h : s.root.length = 32) : (snapCells s).toArray.extract 3 35 = (s.root.map Extern.Stop.cell).toArray := by
  have e : (snapCells s).toArray.extract 3 35 = (((snapCells s).drop 3).take 32).toArray := by simp
  rw [e]
  unfold snapCells
  simp only [List.drop_succ_cons, List.drop_zero]
  rw [List.take_append_of_le_length (by rw [bytesV_len, h]; exact Nat.le_refl _), List.take_of_length_le (by rw [bytesV_len, h]; exact Nat.le_refl _)]
  rfl

theorem run_part_cell {P : Program} {w : World} {t : TypeId} {cs : Array Value} {off : Nat} {v : Value} (ha : (isAgg t).run P w = .ok false w) (h : cs[off]? = some v) : (part t cs off).run P w = .ok v w := by
  simp [part, ha, h]
theorem run_part_agg {P : Program} {w : World} {t : TypeId} {cs : Array Value} {off n : Nat} (ha : (isAgg t).run P w = .ok true w) (hz : (Go.sizeOf t).run P w = .ok n w) : (part t cs off).run P w = .ok (.agg (cs.extract off (off + n))) w := by
  simp [part, ha, hz]

theorem eqFields_step {P : Program} {w : World} {d : Nat} {xs ys : Array Value} {f : Field} {fs : List Field} {u v : Value} {r r2 : Bool} (hn : f.name ≠ "_") (hx : (part f.type xs f.offset).run P w = .ok u w) (hy : (part f.type ys f.offset).run P w = .ok v w) (he : (Op.equalIn d f.type u v).run P w = .ok r w)
    (hr : (Op.eqFields d xs ys fs).run P w = .ok r2 w) : (Op.eqFields d xs ys (f :: fs)).run P w = .ok (r && r2) w := by
  unfold Op.eqFields
  rw [if_pos hn]
  simp only [Sem.run_bind, hx, hy, he, Result.andThen_ok]
  cases r
  · rfl
  · simpa using hr

theorem eqlIn_snap (d : Nat) {a b : SnapR} (ha : a.root.length = 32) (hb : b.root.length = 32) (w : World) :
    (Op.equalIn (d + 3) 108 (.agg (snapCells a).toArray) (.agg (snapCells b).toArray)).run Try.prog w = .ok (eqS a b) w := by
  have hu := Try.underlying108
  have hf : Try.prog.underlying 108 = some (.struct (Try.prog.fieldsOf 108)) := by rw [Program.fieldsOf, hu]
  have hs : Try.prog.stoodInHeld 108 = false := Try.stoodInHeld108
  have hid := run_equalIn_bytes (P := Try.prog) w d 106 5 32 Try.underlying106 Try.underlying5 Try.sizeOf5 a.root b.root ha hb
  rw [← id_part ha, ← id_part hb] at hid
  rw [run_equalIn_struct w (d + 2) _ _ _ hf hs, Program.fieldsOf, hu]
  have c0 : ∀ s : SnapR, (part 2 (snapCells s).toArray 0).run Try.prog w = .ok (.int .i64 s.time) w := fun s => run_part_cell (Try.isAgg2 w) rfl
  have c1 : ∀ s : SnapR, (part 9 (snapCells s).toArray 1).run Try.prog w = .ok (.string ⟨s.host.toArray⟩) w := fun s => run_part_cell (Try.isAgg9 w) rfl
  have c2 : ∀ s : SnapR, (part 9 (snapCells s).toArray 2).run Try.prog w = .ok (.string ⟨s.tag.toArray⟩) w := fun s => run_part_cell (Try.isAgg9 w) rfl
  have c3 : ∀ s : SnapR, (part 106 (snapCells s).toArray 3).run Try.prog w = .ok (.agg ((snapCells s).toArray.extract 3 35)) w := fun s => run_part_agg (n := 32) (Try.isAgg106 w) (Try.sizeOf106 w)
  have c35 : ∀ s : SnapR, s.root.length = 32 → (part 3 (snapCells s).toArray 35).run Try.prog w = .ok (.int .i64 s.files) w := fun s h => run_part_cell (Try.isAgg3 w) (by simpa using (snap_at h).1)
  have c36 : ∀ s : SnapR, s.root.length = 32 → (part 2 (snapCells s).toArray 36).run Try.prog w = .ok (.int .i64 s.bytes) w := fun s h => run_part_cell (Try.isAgg2 w) (by simpa using (snap_at h).2.1)
  have e0 := run_equalIn_int (P := Try.prog) w (d + 1) 2 .i64 .i64 a.time b.time Try.underlying2
  have e1 := run_equalIn_string (P := Try.prog) w (d + 1) 9 ⟨a.host.toArray⟩ ⟨b.host.toArray⟩ Try.underlying9
  have e2 := run_equalIn_string (P := Try.prog) w (d + 1) 9 ⟨a.tag.toArray⟩ ⟨b.tag.toArray⟩ Try.underlying9
  have e4 := run_equalIn_int (P := Try.prog) w (d + 1) 3 .i64 .i64 a.files b.files Try.underlying3
  have e5 := run_equalIn_int (P := Try.prog) w (d + 1) 2 .i64 .i64 a.bytes b.bytes Try.underlying2
  rw [toList_data, toList_data] at e1 e2
  dsimp only at e1 e2
  unfold eqS
  refine eqFields_step (by simp) (c0 a) (c0 b) e0 (eqFields_step (by simp) (c1 a) (c1 b) e1 (eqFields_step (by simp) (c2 a) (c2 b) e2 (eqFields_step (by simp) (c3 a) (c3 b) hid (eqFields_step (by simp) (c35 a ha) (c35 b hb) e4 ?_))))
  have h := eqFields_step (P := Try.prog) (d := d + 2) (fs := []) (r2 := true) (f := ⟨"Bytes", 2, 36, false, "", "", 80⟩) (by simp) (c36 a ha) (c36 b hb) e5 rfl
  rw [Bool.and_true] at h
  exact h

theorem eql_snap {a b : SnapR} (ha : a.root.length = 32) (hb : b.root.length = 32) (w : World) :
    (Go.binOp .eql 108 (.agg (snapCells a).toArray) (.agg (snapCells b).toArray)).run Try.prog w = .ok (.bool (eqS a b)) w := by
  have h := eqlIn_snap 9997 ha hb w
  rw [show (9997 + 3 : Nat) = 10000 from rfl] at h
  rw [run_eql_struct, h]
  rfl

set_option maxRecDepth 100000 in
theorem infoPolZ : (Try.prog.info? 95).map (fun i => (i.zero, i.size, i.bytes)) = some (some (.agg (polCells ⟨0, 0, 0, 0, []⟩)), 5, 48) := by kernel_rfl
set_option maxRecDepth 100000 in
theorem wpList_build_pols {ops : Array Oper} {rest : List Oper} {o : Oper} {a : Act} {W : World} {Q : Exit → Act → World → Prop} (hg : o.guard = none) (x y z : Operand) (ho : o.op = .buildSlice 113 3 #[(0, x), (1, y), (2, z)]) (A B C : Array Value) (hx : a.eval x = .agg A) (hy : a.eval y = .agg B) (hz : a.eval z = .agg C) (hA : A.size = 5) (hB : B.size = 5) (hC : C.size = 5)
    (h : ∀ W', W'.heap[W.heap.size]? = some (.cells (A.toList ++ (B.toList ++ C.toList)).toArray 95 (0, 0)) → Keep (fun _ => False) W W' → wpList Try.prog ops Q rest (a.put o.dst (.slice (some ⟨W.heap.size, 0, none⟩) 3 3)) W') : wpList Try.prog ops Q (o :: rest) a W := by
  obtain ⟨i0, hi, hz0, hz1, hz2⟩ := info_parts infoPolZ
  refine wpList_buildSlice hg 113 95 3 #[(0, x), (1, y), (2, z)] ho (A.toList ++ (B.toList ++ C.toList)).toArray i0 _ Try.underlying113 hi hz0 (by rw [hz1]; decide) (by rw [hz1]; decide) ?_ (h _ (alloc_new _ _) ((Keep.refl _ _).alloc _))
  have h1 := Great.fill_whole (s := 5) (by decide) [.agg A, .agg B, .agg C] ((Array.range (3 * 5)).map ((Value.agg (polCells ⟨0, 0, 0, 0, []⟩)).cells[· % (Value.agg (polCells ⟨0, 0, 0, 0, []⟩)).cells.size]!))
    (by intro v hv; simp at hv; rcases hv with rfl | rfl | rfl <;> assumption) (by simp)
  rw [hz1]
  have e1 : (#[(0, x), (1, y), (2, z)].map fun (i, x) => (i, a.eval x)).toList = ([Value.agg A, Value.agg B, Value.agg C].zipIdx 0).map fun x => (x.2, x.1) := by simp [hx, hy, hz]
  have e2 : ([Value.agg A, Value.agg B, Value.agg C].flatMap fun v => v.cells.toList).toArray = (A.toList ++ (B.toList ++ C.toList)).toArray := by simp [Value.cells]
  rw [e1, h1, e2]

theorem pol_one' (p : PolR) : (polCells p).all (·.oneCell') = true := by
  unfold polCells strV; simp [Value.oneCell']
/-- the policies, in a row -/
def polN (day : Int) (i : Nat) : PolR := match i with | 0 => ⟨1, 0, 0, 0, []⟩ | 1 => ⟨0, 1, day, 0, []⟩ | _ => ⟨0, 0, 0, 1, []⟩
def polsL (day : Int) : List Value := (polCells (polN day 0)).toList ++ ((polCells (polN day 1)).toList ++ (polCells (polN day 2)).toList)
theorem polN_load {W : World} {b : Nat} {T : TypeId} {day : Int} (h : W.heap[b]? = some (.cells (polsL day).toArray T (0, 0))) {i : Nat} (hi : i < 3) :
    (Instr.loadAt 95 (.pointer (some ⟨b, i * 5, none⟩))).run Try.prog W = .ok (.agg (polCells (polN day i))) W := by
  have := run_loadAt_mid (P := Try.prog) W b (i * 5) 95 (polCells (polN day i)).toList _ (fun j v hv => by
    have hj : j < 5 := (List.getElem?_eq_some_iff.1 hv).1
    rw [cell_blk h, List.getElem?_toArray]
    match i, hi with
    | 0, _ => match j, hj with | 0, _ => exact hv | 1, _ => exact hv | 2, _ => exact hv | 3, _ => exact hv | 4, _ => exact hv
    | 1, _ => match j, hj with | 0, _ => exact hv | 1, _ => exact hv | 2, _ => exact hv | 3, _ => exact hv | 4, _ => exact hv
    | 2, _ => match j, hj with | 0, _ => exact hv | 1, _ => exact hv | 2, _ => exact hv | 3, _ => exact hv | 4, _ => exact hv) Try.underlying95 rfl (by rw [infoPolicy]; rfl)
  simpa using this

/-- so many of those that are not kept -/
theorem gone_len {L : List SnapR} {P : List Nat} {D : List Int} {n : Nat} (hP : Places L P) (h30 : L.length ≤ 30) : ((goneL (keepB L P ⟨n, 0, 0, 0, []⟩ D)).take (1000 : Int).toNat).length = L.length - min n L.length := by
  rw [List.length_take, goneL_len, keepB_len, last_count hP]
  omega

/-- the last one of all is kept -/
theorem top_kept {L : List SnapR} {P : List Nat} {D : List Int} {day : Int} {i : Nat} (hP : Places L P) (h0 : 0 < L.length) (hd : 1 ≤ day) (hD : DaysOf L (polN day i).day D) :
    (keepB L P (polN day i) D)[P[L.length - 1]!]? = some true := by
  have hz := hP.len
  rw [keepB_at hP (by omega : L.length - 1 < P.length)]
  have hr := hP.rises
  have hl := rowOf_len hP
  have hDr : ∀ D', DaysOf L (polN day i).day D' → DaysOf (rowOf L P) (polN day i).day D' := fun D' h =>
    ⟨h.falls, fun x => (h.mem x).trans ⟨fun ⟨a, s, b, c⟩ => ⟨a, s, hP.perm_row.mem_iff.2 b, c⟩, fun ⟨a, s, b, c⟩ => ⟨a, s, hP.perm_row.mem_iff.1 b, c⟩⟩⟩
  congr 1
  rw [← hl] at h0 ⊢
  match i with
  | 0 =>
    have := days_zero (by show ¬ (1 : Int) ≤ 0; omega) hD
    rw [this]; exact kp_top1 h0
  | 1 => exact kp_top h0 hr hd (hDr _ hD)
  | n + 2 =>
    have := days_zero (by show ¬ (1 : Int) ≤ 0; omega) hD
    rw [this]; exact kp_topw h0

/-- is one of the first k of those that are kept the last one of all? -/
def isTop (L : List SnapR) (B : List Bool) (T : SnapR) (k : Nat) : Bool := (List.range k).any (fun j => B[j]! && eqS L[j]! T)
theorem isTop_step (L : List SnapR) (B : List Bool) (T : SnapR) (k : Nat) : isTop L B T (k + 1) = (isTop L B T k || (B[k]! && eqS L[k]! T)) := by
  unfold isTop; rw [List.range_succ, List.any_append]; simp
theorem isTop_all {L : List SnapR} {B : List Bool} {P : List Nat} (hP : Places L P) (h0 : 0 < L.length) (hB : B[P[L.length - 1]!]? = some true) : isTop L B (rowOf L P)[L.length - 1]! L.length = true := by
  have hz := hP.len
  have hk : L.length - 1 < P.length := by omega
  have hlt : P[L.length - 1]! < L.length := hP.lt (by rw [getElem!_pos P _ hk]; exact List.getElem_mem _)
  unfold isTop
  rw [List.any_eq_true]
  refine ⟨P[L.length - 1]!, List.mem_range.2 hlt, ?_⟩
  rw [rowOf_at L P hk, eqS_self, Bool.and_true, List.getElem!_eq_getElem?_getD, hB]
  rfl
end Go.Proofs.Ytgnigkghkldcfaa
