/-
  retain.Keep: which are kept.
-/
import Derived.Test.YtgnigkghkldcfaaKeepLaws
namespace Go.Proofs.Ytgnigkghkldcfaa
open Go.RowKit Go.Proofs Go.Lib Go.Maps Go.Sort Go.Shelf
attribute [local go_sem] Oper.semAt_some

theorem skip_at {P : Program} {ops : Array Oper} {W : World} {Q : Act → Prop} {rest : List Oper} {o : Oper} {a : Act} (hw : Region.wanted o (yielded ops a.tmps) = false) (h : wpStill P ops W Q rest (a.put o.dst undef)) : wpStill P ops W Q (o :: rest) a := by
  unfold wpStill
  rw [hw]
  exact h
theorem still_at {P : Program} {ops : Array Oper} {W : World} {Q : Act → Prop} {rest : List Oper} {o : Oper} {a : Act} (hw : Region.wanted o (yielded ops a.tmps) = true) (h : ∀ K : Act → Prop, (∀ a, wpStill P ops W Q rest a → K a) → o.still P a W K) : wpStill P ops W Q (o :: rest) a := by
  refine wpStill_step (fun K hK => ?_)
  rw [if_pos hw]
  exact h K hK
/-- a struct read out of a block -/
theorem load_box {P : Program} {w : World} {b : Nat} {cs : Array Value} {T ty : TypeId} {f : Nat × Nat} {d : TypeDesc} (h : w.heap[b]? = some (.cells cs T f)) (hu : P.underlying ty = some d) (hd : d.isRow = true) (hi : (P.info? ty).map (·.size) = some cs.size) :
    (Instr.loadAt ty (.pointer (some ⟨b, 0, none⟩))).run P w = .ok (.agg cs) w := by
  have := run_loadAt_mid (P := P) w b 0 ty cs.toList d (fun j v hv => by rw [cell_blk h, Nat.zero_add, ← Array.getElem?_toList]; exact hv) hu hd (by simpa using hi)
  simpa using this
theorem in_load_run {P : Program} {F : Fence} {n : Nat} {ops : Array Oper} {rest : List Oper} {o : Oper} {a : Act} {W : World} {Q : Exit → Act → World → Prop} (hg : o.guard = none) (ty : TypeId) (x : Operand) (ho : o.op = .load ty x)
    (ad : Addr) (hx : a.eval x = .pointer (some ad)) (v : Value) (hr : (Instr.loadAt ty (.pointer (some ad))).run P W = .ok v W) (h : wpListIn F n P ops Q rest (a.put o.dst v) W) : wpListIn F n P ops Q (o :: rest) a W := by
  refine wpListIn_plain hg fun K hK => ?_
  unfold Oper.wpIn
  refine ⟨?_, ?_⟩
  · simp [Oper.about, ho]
  · rw [Oper.semAt_plain F _ _ (by rw [ho]; intro c hc'; cases hc')]
    simp [execOp, ho, hx, hr, Result.andThen]
    exact hK _ _ h
theorem infoPolicy : (Try.prog.info? 95).map (·.size) = some 5 := by kernel_rfl
theorem firstB_snoc (L : List SnapR) (P : List Nat) (p : PolR) (pre : List (Nat × Nat)) (x : Nat × Nat) : firstB L P p (pre ++ [x]) = (firstB L P p pre).set x.2 (keepAt L P p x) := by
  unfold firstB; rw [List.foldl_append]; rfl
theorem backs_at2 {P : List Nat} {kk i : Nat} (h : (kk, i) ∈ backs P) : kk < P.length ∧ i = P[kk]! := by
  unfold backs at h
  rw [List.mem_reverse] at h
  obtain ⟨q, hq, e⟩ := List.mem_map.1 h
  simp at hq e
  obtain ⟨rfl, rfl⟩ := e
  exact ⟨hq, by simp⟩
section
variable {P : Program} {ops : Array Oper} {rest : List Oper} {o : Oper} {a : Act} {W : World} {Q : Exit → Act → World → Prop} {l n : Nat}
/-- a load of many cells, inside a round -/
theorem round_load_run (hg : o.guard = none) (ty : TypeId) (x : Operand) (ho : o.op = .load ty x)
    (ad : Addr) (hx : a.eval x = .pointer (some ad)) (v : Value) (hr : (Instr.loadAt ty (.pointer (some ad))).run P W = .ok v W) (h : wpListIn (Fence.wide.inRound l) n P ops Q rest (a.put o.dst v) W) : wpListIn (Fence.wide.inRound l) n P ops Q (o :: rest) a W := by
  refine wpListIn_plain hg fun K hK => wpIn_of_wp (fun c => by rw [ho]; intro e; cases e) ?_
  unfold Oper.wp execOp
  simp only [ho, hx, Sem.run_bind, hr, Result.andThen_ok]
  exact hK _ _ h
/-- a struct laid into a box, inside a round -/
theorem round_store_box (hgd : o.guard = none) (ty : TypeId) (x y : Operand) (ho : o.op = .store ty x y)
    (g : Nat) (cells : Array Value) (hx : a.eval x = .pointer (some ⟨g, 0, none⟩)) (hy : a.eval y = .agg cells)
    {t : TypeId} {old : Array Value} (hg : W.heap[g]? = some (.cells old t (0, 0))) (hi : (P.info? ty).map (·.size) = some cells.size)
    (hold : old.size = cells.size) (h1 : cells.all (·.oneCell') = true)
    (h : ∀ W', W'.heap[g]? = some (.cells cells t (0, 0)) → Keep (· = g) W W' → wpListIn (Fence.wide.inRound l) n P ops Q rest (a.put o.dst undef) W') : wpListIn (Fence.wide.inRound l) n P ops Q (o :: rest) a W :=
  wpListIn_plain hgd fun K hK => wpIn_of_wp (fun c => by rw [ho]; intro e; cases e) (wp_store_row ty x y ho g cells hx hy t old hg hi hold h1 (hK _ _ (h _ (by simp [World.setRow, Array.getElem?_modify, hg]) (setRow_keep (F := (· = g)) rfl cells))))
end

set_option maxRecDepth 100000 in
set_option maxHeartbeats 40000000 in
theorem keep_any {w : World} {v : Value} {L : List SnapR} {p : PolR} (hL : SnapsAt w v L) (h32 : Snaps32 L) (ht : ∀ s ∈ L, In64 s.time) (h40 : L.length < 40) (hlast : In64 p.last) (hdays : In64 p.days) (hwi : In64 p.within) :
    Calls Try.prog 54 #[v, .agg (polCells p)] w fun e w' => ∃ g c P D, e = .returned (.slice (some ⟨g, 0, none⟩) L.length c) ∧ w.heap.size ≤ g ∧ Keep (fun _ => False) w w' ∧ Places L P ∧ DaysOf L p.day D ∧
      w'.heap[g]? = some (.cells ((byB L P p.day (firstB L P p (backs P)) (D.take p.days.toNat)).map Value.bool).toArray 4 (0, 0)) := by
  obtain ⟨n, hn⟩ : ∃ n, n = L.length := ⟨_, rfl⟩
  have hsl := hL
  unfold SnapsAt at hsl
  obtain ⟨_, va, vc, ev, v1, v2, _, v4⟩ := hsl
  rw [← hn] at ev v1
  subst ev
  unfold maxLen at v2
  have n40 : n < 40 := by omega
  have HOR := Lib.hid (fun (W : World) (K : Keep (fun _ => False) w W) => order_any (w := W) (v := .slice va n vc) (L := L) (hL.keep K (fun _ _ e => e)) h32 h40)
  rw [← hn]
  have HN := Lib.hid hn
  clear hn
  obtain ⟨last, days, day, within, tag⟩ := p
  unfold polCells
  dsimp only at hlast hdays hwi ⊢
  refine (callsIn_wide (n := 9)).1 ?_
  refine callsIn_of_wp_marks Try.func54 rfl trivial ?_ rfl
  simp only [Try.ntmps54, List.size_toArray, List.length_cons, List.length_nil, Nat.reduceAdd, Nat.reduceSub, Array.replicate_succ, Array.replicate_zero, List.push_toArray, List.append_toArray, List.nil_append, List.cons_append]
  have hms : ∀ W : World, (Instr.makeSlice 22 (.int .i64 n) (.int .i64 n)).run Try.prog W = .ok (.slice (some ⟨W.heap.size, 0, none⟩) n n) (W.alloc (.cells (Array.replicate n (.bool false)) 4)) := by
    intro W
    obtain ⟨i0, hi, hz0, hz1, hz2⟩ := info_parts info_bool
    have h := run_makeSlice (P := Try.prog) (w := W) 22 4 i0 (.bool false) Try.underlying22 hi hz0 .i64 .i64 n n (by omega) (Int.le_refl _) (by rw [hz1]; omega) (by rw [hz2]; omega) (by omega)
    rw [h, hz1]
    simp only [Int.toNat_natCast, Nat.mul_one]
    congr 3
    apply Array.ext
    · simp [madeCells]
    · intro i h1 h2
      simp only [madeCells, Array.getElem_map, Array.getElem_range, Array.getElem_replicate]
      show #[Value.bool false][i % 1]! = _
      rw [Nat.mod_one]; rfl
  gi_wp2_with fail
  have k4 : Keep (fun _ => False) w ((((w.alloc (.cells #[.slice va n vc] 93)).alloc (.cells #[.int .i64 last, .int .i64 days, .int .i64 day, .int .i64 within, strV tag] 95)).alloc (.cells (Array.replicate n (.bool false)) 4)).alloc (.cells #[.slice (some ⟨w.heap.size + 1 + 1, 0, none⟩) n n] 22)) := ((((Keep.refl _ w).alloc _).alloc _).alloc _).alloc _
  refine ⟨trivial, (callsIn_wide.2 (HOR.out _ k4)).mono ?_⟩
  rintro e w1 ⟨r, P, rfl, hP, hr, kP, fr⟩
  have hsr := hr
  obtain ⟨_, ra, rc, er, r1, r2, _, r4⟩ := hsr
  rw [← HN.out] at er r1
  subst er
  unfold maxLen at r2
  gi_wp2_with fail
  refine ⟨trivial, (callsIn_wide.2 (backward_any _ _ _ _)).mono ?_⟩
  rintro e w3 ⟨rfl, rfl⟩
  gi_wp2_with fail
  obtain ⟨W3, hW3⟩ : ∃ W3, ((w1.alloc (.cells #[.slice ra n rc] 45)).alloc (.cells #[.slice ra n rc] 45)) = W3 := ⟨_, rfl⟩
  have kW3 : Keep (fun _ => False) w1 W3 := by rw [← hW3]; exact ((Keep.refl _ w1).alloc _).alloc _
  have z3 : W3.heap.size = w1.heap.size + 2 := by rw [← hW3]; simp
  have ba : W3.heap[w1.heap.size]? = some (.cells #[.slice ra n rc] 45 (0, 0)) := by rw [← hW3]; exact alloc_blk (alloc_new _ _) _
  have br : W3.heap[w1.heap.size + 1]? = some (.cells #[.slice ra n rc] 45 (0, 0)) := by rw [← hW3]; exact alloc_at (by simp) _
  rw [hW3]
  clear hW3
  have kw := kP.size
  simp at kw
  have hrlt : ∀ b, vblk (.slice ra n rc) = some b → w.heap.size + 4 ≤ b := fun b e => by have := (fr b e).1; simp at this; omega
  have hrlt2 : ∀ b, vblk (.slice ra n rc) = some b → b < w1.heap.size := fun b e => (fr b e).2
  obtain ⟨kb, hkb⟩ : ∃ kb, kb = w.heap.size + 1 + 1 := ⟨_, rfl⟩
  have b1k : w1.heap[kb]? = some (.cells (Array.replicate n (.bool false)) 4 (0, 0)) := by
    rw [hkb]
    exact kP.heap (alloc_blk (alloc_at (w := (w.alloc (.cells #[.slice va n vc] 93)).alloc (.cells #[.int .i64 last, .int .i64 days, .int .i64 day, .int .i64 within, strV tag] 95)) (n := w.heap.size + 1 + 1) (by simp) (.cells (Array.replicate n (.bool false)) 4)) _) id
  have HBX : ∀ W, Keep (fun b => b = kb) W3 W → (W.cell? ⟨w.heap.size, 0, none⟩ = some (.slice va n vc) ∧ W.cell? ⟨w.heap.size + 1, 0, none⟩ = some (.int .i64 last) ∧ W.cell? ⟨w.heap.size + 1, 1, none⟩ = some (.int .i64 days) ∧ W.cell? ⟨w.heap.size + 1, 2, none⟩ = some (.int .i64 day) ∧ W.cell? ⟨w.heap.size + 1, 3, none⟩ = some (.int .i64 within) ∧ W.cell? ⟨w.heap.size + 1, 4, none⟩ = some (strV tag) ∧ W.cell? ⟨w.heap.size + 1 + 1 + 1, 0, none⟩ = some (.slice (some ⟨w.heap.size + 1 + 1, 0, none⟩) n n) ∧ W.cell? ⟨w1.heap.size, 0, none⟩ = some (.slice ra n rc)) ∧
      (∀ i, i < n → ∃ lb lo, va = some ⟨lb, lo, none⟩ ∧ W.cell? ⟨lb, lo + i * 37, none⟩ = some (.int .i64 L[i]!.time) ∧ (Instr.loadAt 108 (.pointer (some ⟨lb, lo + i * 37, none⟩))).run Try.prog W = .ok (.agg (snapCells L[i]!).toArray) W) ∧
      (∀ j, j < n → ∃ rb ro, ra = some ⟨rb, ro, none⟩ ∧ W.cell? ⟨rb, ro + j, none⟩ = some (.int .i64 P[j]!)) := by
    intro W kW
    have kA : Keep (fun b => b = kb) w1 W := kW3.trans' kW (fun _ _ e => e.elim) (fun _ _ e => e)
    have b0 := kA.heap (kP.heap (alloc_blk (alloc_blk (alloc_blk (alloc_new w (.cells #[.slice va n vc] 93)) (.cells #[.int .i64 last, .int .i64 days, .int .i64 day, .int .i64 within, strV tag] 95)) (.cells (Array.replicate n (.bool false)) 4)) (.cells #[.slice (some ⟨w.heap.size + 1 + 1, 0, none⟩) n n] 22)) id) (by omega)
    have b1 := kA.heap (kP.heap (alloc_blk (alloc_blk (alloc_at (w := w.alloc (.cells #[.slice va n vc] 93)) (n := w.heap.size + 1) (by simp) (.cells #[.int .i64 last, .int .i64 days, .int .i64 day, .int .i64 within, strV tag] 95)) (.cells (Array.replicate n (.bool false)) 4)) (.cells #[.slice (some ⟨w.heap.size + 1 + 1, 0, none⟩) n n] 22)) id) (by omega)
    have b3 := kA.heap (kP.heap (alloc_at (w := ((w.alloc (.cells #[.slice va n vc] 93)).alloc (.cells #[.int .i64 last, .int .i64 days, .int .i64 day, .int .i64 within, strV tag] 95)).alloc (.cells (Array.replicate n (.bool false)) 4)) (n := w.heap.size + 1 + 1 + 1) (by simp) (.cells #[.slice (some ⟨w.heap.size + 1 + 1, 0, none⟩) n n] 22)) id) (by omega)
    have b4 := kW.heap ba (by omega)
    have sW : ∀ b, b < w.heap.size → W.heap[b]? = w.heap[b]? := fun b hb => (kA.block b (by omega) (by omega)).trans ((kP.block b (by simp; omega) id).trans (k4.block b hb id))
    refine ⟨⟨by rw [cell_blk b0]; rfl, by rw [cell_blk b1]; rfl, by rw [cell_blk b1]; rfl, by rw [cell_blk b1]; rfl, by rw [cell_blk b1]; rfl, by rw [cell_blk b1]; rfl, by rw [cell_blk b3]; rfl, by rw [cell_blk b4]; rfl⟩, fun i hi => ?_, fun j hj => ?_⟩
    · obtain ⟨lb, lo, rfl, _⟩ := v4 (by have := HN.out; omega)
      obtain ⟨s, hs⟩ : ∃ s, L[i]? = some s := ⟨_, List.getElem?_eq_getElem (by have := HN.out; omega)⟩
      have hc := (hL.range h32 hs) 0 (.int .i64 s.time) rfl
      have es : L[i]! = s := by rw [List.getElem!_eq_getElem?_getD, hs]; rfl
      have hlt := World.block_lt_of_cell? w (a := ⟨lb, lo + i * 37 + 0, none⟩) hc
      refine ⟨lb, lo, rfl, ?_, ?_⟩
      · rw [es, ← hc, Nat.add_zero]
        exact World.cell?_of_block (sW lb hlt)
      · rw [es]
        exact SnapsAt.load (w := W) (n := n) (c := vc) (L := L) (Sl.keep hL (⟨kA.os.trans (kP.os.trans k4.os), kA.tape.trans (kP.tape.trans k4.tape), kA.output.trans (kP.output.trans k4.output), Nat.le_trans k4.size (Nat.le_trans kP.size kA.size), fun b hb _ => sW b hb⟩ : Keep (fun _ => False) w W) (fun _ _ _ h => h)) h32 hs
    · obtain ⟨rb, ro, rfl, h⟩ := r4 (by have := HN.out; omega)
      refine ⟨rb, ro, rfl, ?_⟩
      have h1 := h j (by have := HN.out; omega)
      have hlt := hrlt rb rfl
      have hlt2 := hrlt2 rb rfl
      rw [World.cell?_of_block (a := ⟨rb, ro + j, none⟩) (kA.block rb hlt2 (by omega)), h1]
      unfold natsV
      rw [List.getElem?_map, List.getElem?_eq_getElem (by have := hP.len; have := HN.out; omega), getElem!_pos P j (by have := hP.len; have := HN.out; omega)]
      rfl
  have HPB : ∀ W, Keep (fun b => b = kb) W3 W → W.heap[w.heap.size + 1]? = some (.cells #[.int .i64 last, .int .i64 days, .int .i64 day, .int .i64 within, strV tag] 95 (0, 0)) ∧ Keep (fun b => b = kb) w1 W := by
    intro W kW
    have kA : Keep (fun b => b = kb) w1 W := kW3.trans' kW (fun _ _ e => e.elim) (fun _ _ e => e)
    exact ⟨kA.heap (kP.heap (alloc_blk (alloc_blk (alloc_at (w := w.alloc (.cells #[.slice va n vc] 93)) (n := w.heap.size + 1) (by simp) (.cells #[.int .i64 last, .int .i64 days, .int .i64 day, .int .i64 within, strV tag] 95)) (.cells (Array.replicate n (.bool false)) 4)) (.cells #[.slice (some ⟨w.heap.size + 1 + 1, 0, none⟩) n n] 22)) id) (by omega), kA⟩
  have HQ0 := Lib.hid HPB
  have HKA := Lib.hid (k4.trans kP)
  have HDYS := Lib.hid hdays
  have HKW := Lib.hid kw
  clear HPB hdays
  have hQ : ∀ q, (q = w1.heap.size + 1 ∨ vblk (.slice ra n rc) = some q) → q < W3.heap.size := by
    rintro q (rfl | e)
    · omega
    · have := hrlt2 q e; omega
  have hrW : ∀ W, Below W3.heap.size W3 W → Sl W 1 (.slice ra n rc) P.length (natsV P) := fun W hb => by
    rw [hP.len]
    exact Sl.keep hr (kW3.trans (Keep.of_below hb (fun _ => False))) (fun _ _ _ h => h)
  have HR3 := Lib.hid (And.intro hrlt hrlt2); have HBXX := Lib.hid HBX; have HB1K := Lib.hid b1k; have HRW := Lib.hid hrW; have HLL := Lib.hid hL; have HH32 := Lib.hid h32; have HHT := Lib.hid ht; have HPP0 := Lib.hid hP; have HRR := Lib.hid hr
  have Z3 := Lib.hid z3
  have HKB := Lib.hid hkb
  refine wp_range (n := 9) (gf := 117) (lb := #[.pointer (some ⟨w1.heap.size + 1, 0, none⟩)]) (encs := encB) (xs := backs P) (Qb := fun q => q = w1.heap.size + 1 ∨ vblk (.slice ra n rc) = some q) rfl (fun _ _ => rfl) hQ
    (fun W hb => back1_iter _ (w1.heap.size + 1) (.slice ra n rc) P (fun q => vblk (.slice ra n rc) = some q) W (hrW W hb) (fun b e => e) (by have := hP.len; omega) ((hb.block _ (by omega)).trans br)) (fun _ => rfl)
    (fun Pv pre W => Keep (fun b => b = kb) W3 W ∧ W.heap[kb]? = some (.cells ((firstB L P ⟨last, days, day, within, tag⟩ pre).map Value.bool).toArray 4 (0, 0)) ∧ ∀ q, Pv q → W3.heap.size + 2 ≤ q)
    (fun _ _ _ => False) ?i0 ?ip (fun _ _ _ _ _ h _ => h.elim)
    (fun x => { tmps := #[.slice va n vc, .agg #[.int .i64 last, .int .i64 days, .int .i64 day, .int .i64 within, strV tag], .pointer (some ⟨w.heap.size, 0, none⟩), .pointer (some ⟨w.heap.size + 1, 0, none⟩), .slice none 0 0, .pointer (some ⟨w.heap.size + 1 + 1 + 1, 0, none⟩), .pointer (some ⟨w1.heap.size, 0, none⟩), .int .i64 x.1, .int .i64 x.2, undef, .slice va n vc, .int .i64 n, .slice (some ⟨w.heap.size + 1 + 1, 0, none⟩) n n, .slice va n vc, .slice ra n rc, .slice ra n rc, .func (.func 117) #[] #[.pointer (some ⟨w1.heap.size + 1, 0, none⟩)], .int .i64 x.1, .int .i64 x.2, undef, undef, undef, undef, undef, undef, undef, undef, undef, undef, undef, undef, undef, undef, undef, undef, undef, undef, undef, undef, undef, undef, undef, undef, undef, undef, undef, undef, undef, undef, undef, undef, undef, undef, undef, undef, undef, undef, undef, undef, undef, undef, undef, undef, undef, undef, undef, undef, undef, undef], defers := [] }) ?assign ?body ?done (fun _ _ _ _ h _ => h.elim)
  case assign =>
    intro l x W K hK
    gi_wp2
    exact hK
  case i0 =>
    intro W Pv hb hPv
    refine ⟨Keep.of_below hb _, ?_, hPv⟩
    rw [hb.block _ (by omega), kW3.heap b1k id]
    unfold firstB
    simp [HN.out]
  case ip =>
    rintro Pv pre W r o' ⟨j1, j2, j3⟩ hl
    have hk : Keep (· = W3.heap.size + 1) W (W.putObj (W3.heap.size + 1) o') := ⟨rfl, rfl, rfl, by rw [World.putObj_size]; exact Nat.le_refl _, fun k _ hn => World.putObj_heap_other (fun e => hn e)⟩
    exact ⟨j1.trans' hk (fun _ _ e => e) (fun i hi e => by omega), hk.heap j2 (by omega), j3⟩
  case body =>
    rintro l Pv pre ⟨kk, i⟩ W rfl ⟨j1, j2, j3⟩ hpre ⟨r, hl⟩ hD2 hP2
    have hx : (kk, i) ∈ backs P := hpre.subset (by simp)
    have HBA := Lib.hid (backs_at2 hx)
    have hPl := hP.len
    have hN := HN.out
    have hi : i < n := by have := hP.lt (backs_mem hx); omega
    have hkk : kk < n := by
      unfold backs at hx
      rw [List.mem_reverse] at hx
      obtain ⟨q, hq, e⟩ := List.mem_map.1 hx
      simp at hq e
      omega
    obtain ⟨⟨y0, _, _, _, _, _, _⟩, y7, _⟩ := HBX W j1
    obtain ⟨lb, lo, rfl, _, hld⟩ := y7 i hi
    obtain ⟨S, hS⟩ : ∃ S, S = L[i]! := ⟨_, rfl⟩
    have hSm : S ∈ L := by rw [hS, getElem!_pos L i (by omega)]; exact List.getElem_mem _
    rw [← hS] at hld
    obtain ⟨A, hA⟩ : ∃ A, A = (snapCells S).toArray := ⟨_, rfl⟩
    have a0 : A[0]? = some (.int .i64 S.time) := by rw [hA]; rfl
    have a2 : A[2]? = some (strV S.tag) := by rw [hA]; rfl
    have az : A.size = 37 := by rw [hA]; simpa using snapCells_len (h32 S hSm)
    have a1 : A.all (·.oneCell') = true := by rw [hA]; exact snap_one S
    have hia : (Try.prog.info? 108).map (·.size) = some A.size := by rw [az]; exact infoSnap
    rw [← hA] at hld
    have hPz : P[n - 1]! < n := by
      rw [getElem!_pos P (n - 1) (by omega)]
      have := hP.lt (List.getElem_mem (l := P) (n := n - 1) (by omega)); omega
    have HLD := Lib.hid hld; have HA0 := Lib.hid a0; have HA2 := Lib.hid a2; have HAZ := Lib.hid az; have HA1 := Lib.hid a1; have HIA := Lib.hid hia; have HJ2 := Lib.hid j2; have HJ3 := Lib.hid j3; have HPR := Lib.hid hpre; have HPP := Lib.hid hP2; have HSS := Lib.hid hS; have HHL := Lib.hid hl
    have i1 : (0 : Int) ≤ i := by omega
    have i2 : (i : Int) < n := by omega
    have hsz4 : W3.heap.size + 2 ≤ W.heap.size := by have := lt_blk' hl; omega
    have HAF := Lib.hid (fun (O : Obj) (W2 : World) (K2 : Keep (· = W.heap.size) (W.alloc O) W2) => (show Keep (fun b => b = kb) W3 W2 ∧ W2.heap[kb]? = W.heap[kb]? ∧ Keep (fun _ => False) W W2 from by
      have hh := lt_blk' j2
      exact ⟨(j1.alloc O).trans' K2 (fun _ _ e => e) (fun i hi e => by omega), (K2.block kb (by simp; omega) (by omega)).trans (Below.heap_alloc _ _ _ hh), ((Keep.refl _ W).alloc O).trans' K2 (fun _ _ e => e) (fun i hi e => by omega)⟩))
    clear hld a0 a2 az a1 hia j2 j3 hpre hP2 hS hl hx y7 hD2 j1 hA v4 r4 ba br hN hPl z3 hkb
    gi_wp2_with (first | (refine round_load_run rfl 108 (.tmp 21) rfl _ rfl _ HLD.out ?_) | (refine round_store_box rfl 108 (.tmp 9) (.tmp 22) rfl W.heap.size A (by rfl) (by rfl) (alloc_new _ _) HIA.out (by rw [HAZ.out]; kernel_rfl) HA1.out ?_; intro W2 hB2 kB2; have c0 := (cell_blk hB2 0).trans HA0.out; have c2 := (cell_blk hB2 2).trans HA2.out; obtain ⟨kp2, kq2, kr2⟩ := HAF.out _ W2 kB2; have HKP2 := Lib.hid kp2; have HKQ2 := Lib.hid kq2; have HKR2 := Lib.hid kr2; clear kp2 kq2 kr2 hB2 kB2))
    obtain ⟨⟨x0, x1, x2, x2', x3, x4, x5, x6⟩, x7, x8⟩ := HBX W2 HKP2.out
    obtain ⟨rb, ro, rfl, x9⟩ := x8 (n - 1) (by omega)
    obtain ⟨_, _, ee, x10, _⟩ := x7 P[n - 1]! hPz
    cases ee
    obtain ⟨q, hq⟩ : ∃ q, q = P[n - 1]! := ⟨_, rfl⟩
    rw [← hq] at x9 x10 hPz
    have hq1 : (0 : Int) ≤ q := by omega
    have hq2 : (q : Int) < n := by omega
    have bW := HKQ2.out.trans HJ2.out
    have hFl : (firstB L P ⟨last, days, day, within, tag⟩ pre).length = n := by rw [firstB_len]; exact HN.out.symm
    have x11 : W2.cell? ⟨w.heap.size + 1 + 1, i, none⟩ = some (.bool (firstB L P ⟨last, days, day, within, tag⟩ pre)[i]!) := by
      rw [← HKB.out, cell_blk bW, List.getElem?_toArray, List.getElem?_map, List.getElem?_eq_getElem (by omega), getElem!_pos _ i (by omega)]; rfl
    have x12 : W2.frozen? ⟨w.heap.size + 1 + 1, i, none⟩ = false := by rw [← HKB.out]; exact frozen_blk bW i
    have hab := above_any (t := S.time) (last := L[q]!.time) (less := within) (ht S hSm) (by rw [getElem!_pos L q (by have := HN.out; omega)]; exact ht _ (List.getElem_mem _)) hwi (by
      obtain ⟨hkl, hki⟩ := HBA.out
      rw [HSS.out, hki, hq]
      have e1 : kk = n - 1 ∨ kk < n - 1 := by omega
      rcases e1 with e1 | e1
      · rw [e1]; exact Int.le_refl _
      · rw [getElem!_pos P kk hkl, getElem!_pos P (n - 1) (by have := hP.len; have := HN.out; omega)]
        exact leP.time (List.pairwise_iff_getElem.1 hP.srt kk (n - 1) hkl (by have := hP.len; have := HN.out; omega) e1))
    obtain ⟨t, htS⟩ : ∃ t, t = S.time := ⟨_, rfl⟩
    obtain ⟨tl, htl⟩ : ∃ tl, tl = L[q]!.time := ⟨_, rfl⟩
    rw [← htS] at hab c0; rw [← htl] at hab x10
    obtain ⟨ab, hab2⟩ : ∃ ab, ab = aboveV t tl within := ⟨_, rfl⟩
    rw [← hab2] at hab
    obtain ⟨ts, hts⟩ : ∃ ts, ts = (⟨S.tag.toArray⟩ : ByteArray) := ⟨_, rfl⟩
    obtain ⟨tp, htp⟩ : ∃ tp, tp = (⟨tag.toArray⟩ : ByteArray) := ⟨_, rfl⟩
    have hkat : keepAt L P ⟨last, days, day, within, tag⟩ (kk, i) = (decide (IntKind.i64.wrap ((n : Int) - kk) ≤ max last 0) || ab || (!tp.toList.isEmpty && ts.toList == tp.toList)) := by
      unfold keepAt
      have e0 : P.length = n := by have := hP.len; have := HN.out; omega
      have e1 : IntKind.i64.wrap ((n : Int) - kk) = (n : Int) - kk := by rw [IntKind.wrap_i64]; omega
      rw [e0, e1, hab2, htS, htl, hq, HSS.out]
      congr 1
      rw [htp, hts, HSS.out]
      congr 1
      · rw [toList_data]; cases tag <;> rfl
      · rw [toList_data, toList_data]
    have hfin : ∀ (b : Bool) (a : Act), b = keepAt L P ⟨last, days, day, within, tag⟩ (kk, i) → rangePostA (fun k => k = W3.heap.size + 1 ∨ k = W3.heap.size ∨ Pv k ∨ k = w1.heap.size + 1 ∨ vblk (.slice (some ⟨rb, ro, none⟩) n rc) = some k)
        (fun pre W => Keep (fun b => b = kb) W3 W ∧ W.heap[kb]? = some (.cells ((firstB L P ⟨last, days, day, within, tag⟩ pre).map Value.bool).toArray 4 (0, 0)) ∧ ∀ q, Pv q → W3.heap.size + 2 ≤ q)
        (fun _ _ _ => False) (pre ++ [(kk, i)]) W Exit.normal a (W2.setCell ⟨w.heap.size + 1 + 1, i, none⟩ (.bool b)).drew := by
      rintro b a rfl
      rw [← HKB.out]
      have hkk2 : Keep (fun b => b = kb) W2 (W2.setCell ⟨kb, i, none⟩ (.bool (keepAt L P ⟨last, days, day, within, tag⟩ (kk, i)))).drew := ((Keep.refl (fun b => b = kb) W2).setCell (p := ⟨kb, i, none⟩) (fun _ => rfl) _).drew
      refine ⟨KeepB.of_keep (HKR2.out.trans' hkk2 (H := fun b => b = kb) (fun _ _ e => e.elim) (fun _ _ e => e)) ?_, HKP2.out.trans' hkk2 (fun _ _ e => e) (fun _ _ e => e), ?_, HJ3.out⟩
      · have z3 := Z3.out
        have zk := HKB.out
        rintro k (rfl | rfl | e | rfl | e)
        · omega
        · omega
        · have := HPP.out k e; omega
        · omega
        · have h1 := hrlt k e; have h2 := hrlt2 k e; omega
      · show (W2.setCell ⟨kb, i, none⟩ _).heap[kb]? = _
        rw [set_blk bW, firstB_snoc]
        simp
    unfold strV at x4 c2
    rw [← htp] at x4
    rw [← hts] at c2
    have FIN := Lib.hid hfin; have KAT := Lib.hid hkat
    obtain ⟨m1, hm1⟩ : ∃ m1, m1 = n - 1 := ⟨_, rfl⟩
    have hw2 : IntKind.i64.wrap ((n : Int) - 1) = (m1 : Int) := by rw [IntKind.wrap_i64]; omega
    have hm2 : (0 : Int) ≤ m1 := by omega
    have hm3 : (m1 : Int) < n := by omega
    rw [← hm1] at x9
    have HAB := Lib.hid hab; have HW2 := Lib.hid hw2
    clear hab bW hq htS htl hab2 x7 x8 y0 HBX hms b1k hrW hL h32 ht hP hr hrlt hrlt2 kP fr k4 kW3 kw hQ h40 HOR hSm hfin hkat hts htp hm1 hw2 hFl HBA
    refine round_still_tail 39 (by kernel_rfl) (by kernel_rfl) (by kernel_rfl) (by rintro ⟨_, _, h⟩; exact h) ?_
    simp only [List.take_succ_cons, List.take_zero, List.drop_succ_cons, List.drop_zero]
    iterate 11 still_step
    obtain ⟨b0, hb0⟩ : ∃ b0, b0 = decide (IntKind.i64.wrap ((n : Int) - kk) ≤ max last 0) := ⟨_, rfl⟩
    rw [← hb0]
    rw [← hb0] at KAT
    clear hb0
    cases b0
    case true =>
      iterate 15 (with_reducible refine skip_at ?hw ?_; case hw => kernel_rfl)
      iterate 2 (with_reducible refine still_at ?hw (fun K hK => ?_); (case hw => kernel_rfl); go_simp; with_reducible refine hK _ ?_; clear hK K)
      iterate 10 (with_reducible refine skip_at ?hw ?_; case hw => kernel_rfl)
      (with_reducible refine still_at ?hw (fun K hK => ?_); (case hw => kernel_rfl); go_simp; with_reducible refine hK _ ?_; clear hK K)
      with_reducible refine wpStill_nil ?_
      go_wp2
      exact FIN.out _ _ (by rw [KAT.out]; simp)
    case false =>
      have hw2 := HW2.out
      iterate 14 (with_reducible refine still_at ?hw (fun K hK => ?_); (case hw => kernel_rfl); go_simp; with_reducible refine hK _ ?_; clear hK K)
      still_call (HAB.out _)
      (with_reducible refine still_at ?hw (fun K hK => ?_); (case hw => kernel_rfl); go_simp; with_reducible refine hK _ ?_; clear hK K)
      cases ab
      case true =>
        (with_reducible refine still_at ?hw (fun K hK => ?_); (case hw => kernel_rfl); go_simp; with_reducible refine hK _ ?_; clear hK K)
        iterate 10 (with_reducible refine skip_at ?hw ?_; case hw => kernel_rfl)
        (with_reducible refine still_at ?hw (fun K hK => ?_); (case hw => kernel_rfl); go_simp; with_reducible refine hK _ ?_; clear hK K)
        with_reducible refine wpStill_nil ?_
        go_wp2
        exact FIN.out _ _ (by rw [KAT.out]; simp)
      case false =>
        iterate 4 (with_reducible refine still_at ?hw (fun K hK => ?_); (case hw => kernel_rfl); go_simp; with_reducible refine hK _ ?_; clear hK K)
        obtain ⟨b1, hb1⟩ : ∃ b1, b1 = !tp.toList.isEmpty := ⟨_, rfl⟩
        rw [← hb1]
        rw [← hb1] at KAT
        clear hb1
        (with_reducible refine still_at ?hw (fun K hK => ?_); (case hw => kernel_rfl); go_simp; with_reducible refine hK _ ?_; clear hK K)
        cases b1
        case true =>
          iterate 7 (with_reducible refine still_at ?hw (fun K hK => ?_); (case hw => kernel_rfl); go_simp; with_reducible refine hK _ ?_; clear hK K)
          with_reducible refine wpStill_nil ?_
          go_wp2
          exact FIN.out _ _ (by rw [KAT.out]; simp)
        case false =>
          iterate 5 (with_reducible refine skip_at ?hw ?_; case hw => kernel_rfl)
          iterate 2 (with_reducible refine still_at ?hw (fun K hK => ?_); (case hw => kernel_rfl); go_simp; with_reducible refine hK _ ?_; clear hK K)
          with_reducible refine wpStill_nil ?_
          go_wp2
          exact FIN.out _ _ (by rw [KAT.out]; simp)
  case done =>
    rintro Pv W ⟨j1, j2, j3⟩ hD2
    obtain ⟨hpb, kA⟩ := HQ0.out W j1
    obtain ⟨⟨y0, y1, y2, y3, y4, y6, y5, y7⟩, -, -⟩ := HBX W j1
    have hpl := load_box (P := Try.prog) hpb Try.underlying95 rfl (by rw [infoPolicy]; rfl)
    have kAll : Keep (fun b => w.heap.size ≤ b) w W := HKA.out.trans' kA (fun _ _ e => e.elim) (fun i hi e => by have := HKB.out; omega)
    have HBY := byDays_any (w := W) (v := .slice va n vc) (r := .slice ra n rc) (L := L) (P := P) (p := ⟨last, days, day, within, tag⟩) (B := firstB L P ⟨last, days, day, within, tag⟩ (backs P)) (kb := kb) (kc := n)
      (HLL.out.keep kAll (fun i hi e => by omega)) HH32.out HHT.out (by rw [← HN.out]; exact n40) HPP0.out (Sl.keep HRR.out kA (fun b _ e e2 => by have := hrlt b e; have := HKB.out; omega)) j2 (firstB_len _ _ _ _) HDYS.out
      (fun h0 b e => by have := Sl.lt HLL.out (by decide) h0 e; have := HKB.out; omega) (fun b e => by have := hrlt b e; have := HKB.out; omega)
    unfold polCells at HBY
    rw [← HN.out, HKB.out] at HBY
    have HBYY := Lib.hid HBY; have HPL := Lib.hid hpl; have HKALL := Lib.hid kAll; have HDD := Lib.hid hD2; have HJ1 := Lib.hid j1
    clear HBY hpl kAll hD2 j1 j2 j3 hpb kA y1 y2 y3 y4 y6 HBX hms b1k hrW hL h32 ht hP hr hrlt hrlt2 kP fr k4 kW3 hQ h40 HOR v4 r4 ba br
    gi_wp2_with (refine in_load_run rfl 95 (.tmp 3) rfl _ rfl _ HPL.out ?_)
    refine ⟨trivial, (callsIn_wide.2 HBYY.out).mono ?_⟩
    rintro e W2 ⟨rfl, kB, D, hD, hb⟩
    have c5 : W2.cell? ⟨w.heap.size + 1 + 1 + 1, 0, none⟩ = some (.slice (some ⟨w.heap.size + 1 + 1, 0, none⟩) n n) := by
      rw [← y5]
      have := World.block_lt_of_cell? W (a := ⟨w.heap.size + 1 + 1 + 1, 0, none⟩) y5
      exact World.cell?_of_block (kB.block _ this (by simp))
    have hm : W2.heap[W3.heap.size]? = some (.deferred (some [])) := kB.heap HDD.out (by have := Z3.out; omega)
    have kkw : Keep (fun b => w.heap.size ≤ b) w W2 := HKALL.out.trans' kB (fun _ _ e => e) (fun i hi e => by omega)
    have HB := Lib.hid hb; have HM := Lib.hid hm; have HKK := Lib.hid kkw; have HDD2 := Lib.hid hD
    clear kB hb hm kkw hD y0 y5 y7
    gi_wp2
    have hz3 := Z3.out
    rw [hz3] at HM
    change LeavesInM Fence.wide 9 Try.prog Try.f54 _ _ ([w1.heap.size + 2].map markD) .returning W2
    refine leaves_marks _ (fun W => results_tmp (fn := Try.f54) (t := 4) rfl _ _ W) [w1.heap.size + 2] W2 (by simp) (fun r hr => by simp at hr; rw [hr]; exact HM.out) fun W' kW' => ?_
    have z3 := Z3.out
    have zk := HKW.out
    refine ⟨w.heap.size + 1 + 1, n, P, D, rfl, by omega, ?_, HPP0.out, HDD2.out, ?_⟩
    · have := HKK.out.trans' kW' (H := fun b => w.heap.size ≤ b) (fun _ _ e => e) (fun i hi e => by simp at e; omega)
      exact ⟨this.os, this.tape, this.output, this.size, fun b hb _ => this.block b hb (by omega)⟩
    · exact kW'.heap HB.out (by simp; omega)
end Go.Proofs.Ytgnigkghkldcfaa
