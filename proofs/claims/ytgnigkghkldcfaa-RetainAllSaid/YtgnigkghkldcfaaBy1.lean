/-
  retain.byDays: the last one of each of the last days is kept.
-/
import Derived.Test.YtgnigkghkldcfaaBack1
import Derived.Test.YtgnigkghkldcfaaRoundLaw
namespace Go.Proofs.Ytgnigkghkldcfaa
open Go.RowKit Go.Proofs Go.Lib Go.Maps Go.Sort Go.Shelf
attribute [local go_sem] Oper.semAt_some

structure PolR where
  last : Int
  days : Int
  day : Int
  within : Int
  tag : Bs
def polCells (p : PolR) : Array Value := #[.int .i64 p.last, .int .i64 p.days, .int .i64 p.day, .int .i64 p.within, strV p.tag]
def dayOf (L : List SnapR) (day : Int) (i : Nat) : Int := L[i]!.time / day
def dayPick (L : List SnapR) (P : List Nat) (day d : Int) : Option Nat := P.reverse.find? (fun i => dayOf L day i == d)
def setDay (L : List SnapR) (P : List Nat) (day : Int) (B : List Bool) (d : Int) : List Bool := match dayPick L P day d with
  | some i => B.set i true
  | none => B
def byB (L : List SnapR) (P : List Nat) (day : Int) (B : List Bool) (ds : List Int) : List Bool := ds.foldl (setDay L P day) B

theorem lt_blk' {w : World} {b : Nat} {o : Obj} (h : w.heap[b]? = some o) : b < w.heap.size := (Array.getElem?_eq_some_iff.1 h).1
structure ByI (w1 wr : World) (kb k : Nat) (L : List SnapR) (P : List Nat) (day : Int) (B : List Bool) (D : List Int) (rs : List Nat) : Prop where
  keep : Keep (fun b => b = kb) w1 wr
  blk : wr.heap[kb]? = some (.cells ((byB L P day B (D.take k)).map Value.bool).toArray 4 (0, 0))
  nd : rs.Nodup
  lo : ∀ r ∈ rs, w1.heap.size ≤ r
  mks : ∀ r ∈ rs, wr.heap[r]? = some (.deferred (some []))
theorem setDay_len (L : List SnapR) (P : List Nat) (day : Int) (B : List Bool) (d : Int) : (setDay L P day B d).length = B.length := by
  unfold setDay; split <;> simp
theorem byB_len (L : List SnapR) (P : List Nat) (day : Int) : ∀ (ds : List Int) (B : List Bool), (byB L P day B ds).length = B.length
  | [], _ => rfl
  | d :: r, B => (byB_len L P day r _).trans (setDay_len L P day B d)
theorem byB_snoc (L : List SnapR) (P : List Nat) (day : Int) (B : List Bool) {D : List Int} {k : Nat} {d : Int} (h : D[k]? = some d) : byB L P day B (D.take (k + 1)) = setDay L P day (byB L P day B (D.take k)) d := by
  rw [take_snoc h]; unfold byB; rw [List.foldl_append]; rfl

theorem backs_snd (P : List Nat) : (backs P).map (·.2) = P.reverse := by
  unfold backs
  rw [List.map_reverse, List.map_map]
  congr 1
  apply List.ext_getElem
  · simp
  · intro i h1 h2
    simp at h1
    simp [h1]
theorem backs_mem {P : List Nat} {x : Nat × Nat} (h : x ∈ backs P) : x.2 ∈ P := by
  have : x.2 ∈ (backs P).map (·.2) := List.mem_map_of_mem h
  rw [backs_snd] at this
  simpa using this
theorem pick_of {L : List SnapR} {P : List Nat} {day d : Int} {pre : List (Nat × Nat)} {x : Nat × Nat} (h : pre ++ [x] <+: backs P) (hn : ∀ y ∈ pre, dayOf L day y.2 ≠ d) (he : dayOf L day x.2 = d) : dayPick L P day d = some x.2 := by
  obtain ⟨r, hr⟩ := h
  unfold dayPick
  rw [← backs_snd, ← hr, List.map_append, List.map_append, List.find?_append, List.find?_append]
  have e1 : (pre.map (·.2)).find? (fun i => dayOf L day i == d) = none := by
    rw [List.find?_eq_none]
    intro i hi
    obtain ⟨y, hy, rfl⟩ := List.mem_map.1 hi
    have := hn y hy
    simpa using this
  rw [e1]
  simp [he]
theorem pick_none {L : List SnapR} {P : List Nat} {day d : Int} (hn : ∀ y ∈ backs P, dayOf L day y.2 ≠ d) : dayPick L P day d = none := by
  unfold dayPick
  rw [← backs_snd, List.find?_eq_none]
  intro i hi
  obtain ⟨y, hy, rfl⟩ := List.mem_map.1 hi
  have := hn y hy
  simpa using this

set_option maxRecDepth 100000 in
set_option maxHeartbeats 4000000 in
theorem byDays_any {w : World} {v r : Value} {L : List SnapR} {P : List Nat} {p : PolR} {B : List Bool} {kb kc : Nat} (hL : SnapsAt w v L) (h32 : Snaps32 L) (ht : ∀ s ∈ L, In64 s.time) (h40 : L.length < 40) (hP : Places L P) (hr : Sl w 1 r L.length (natsV P))
    (hk : w.heap[kb]? = some (.cells (B.map Value.bool).toArray 4 (0, 0))) (hB : B.length = L.length) (hdays : In64 p.days) (hvk : 0 < L.length → ∀ b, vblk v = some b → b ≠ kb) (hrk : ∀ b, vblk r = some b → b ≠ kb) :
    Calls Try.prog 88 #[v, r, .agg (polCells p), .slice (some ⟨kb, 0, none⟩) L.length kc] w fun e w' => e = .returned (.tuple #[]) ∧ Keep (fun b => b = kb) w w' ∧ ∃ D, DaysOf L p.day D ∧ w'.heap[kb]? = some (.cells ((byB L P p.day B (D.take p.days.toNat)).map Value.bool).toArray 4 (0, 0)) := by
  obtain ⟨n, hn⟩ : ∃ n, n = L.length := ⟨_, rfl⟩
  have hsl := hL
  unfold SnapsAt at hsl
  obtain ⟨_, va, vc, ev, v1, v2, _, v4⟩ := hsl
  have hsr := hr
  obtain ⟨_, ra, rc, er, r1, r2, _, r4⟩ := hsr
  rw [← hn] at ev v1 er r1
  subst ev
  subst er
  unfold maxLen at v2 r2
  have HDY := Lib.hid (fun (W : World) (K : Keep (fun _ => False) w W) => days_any (w := W) (v := .slice va n vc) (L := L) (day := p.day) (hL.keep K (fun _ _ e => e)) h32 ht h40)
  rw [← hn]
  have HN := Lib.hid hn
  clear hn
  obtain ⟨last, days, day, within, tag⟩ := p
  unfold polCells
  dsimp only at HDY ⊢
  refine (callsIn_wide (n := 9)).1 ?_
  refine callsIn_of_wp_marks Try.func88 rfl trivial ?_ rfl
  simp only [Try.ntmps88, List.size_toArray, List.length_cons, List.length_nil, Nat.reduceAdd, Nat.reduceSub, Array.replicate_succ, Array.replicate_zero, List.push_toArray, List.append_toArray, List.nil_append, List.cons_append]
  gi_wp2_with fail
  have k3 : Keep (fun _ => False) w (((w.alloc (.cells #[.slice va n vc] 93)).alloc (.cells #[.int .i64 last, .int .i64 days, .int .i64 day, .int .i64 within, strV tag] 95)).alloc (.cells #[.slice (some ⟨kb, 0, none⟩) n kc] 22)) := (((Keep.refl _ w).alloc _).alloc _).alloc _
  refine ⟨trivial, (callsIn_wide.2 (HDY.out _ k3)).mono ?_⟩
  rintro e w1 ⟨dv, D, rfl, hD, hDs, hDk, hDf⟩
  have hsd := hDs
  obtain ⟨_, da, dc, ed, d1, d2, _, d4⟩ := hsd
  subst ed
  unfold maxLen at d2
  obtain ⟨N, hN⟩ : ∃ N, N = D.length := ⟨_, rfl⟩
  rw [← hN] at d1
  rw [← hN]
  have HNN := Lib.hid hN
  clear hN
  have hkb := lt_blk hk
  have HBX : ∀ W, Keep (fun b => b = kb) w1 W → W.cell? ⟨w.heap.size, 0, none⟩ = some (.slice va n vc) ∧ W.cell? ⟨w.heap.size + 1, 2, none⟩ = some (.int .i64 day) ∧ W.cell? ⟨w.heap.size + 1 + 1, 0, none⟩ = some (.slice (some ⟨kb, 0, none⟩) n kc) ∧
      ∀ i, i < n → ∃ lb lo, va = some ⟨lb, lo, none⟩ ∧ W.cell? ⟨lb, lo + i * 37, none⟩ = some (.int .i64 L[i]!.time) := by
    intro W kW
    have b0 := kW.heap (hDk.heap (alloc_blk (alloc_blk (alloc_new w (.cells #[.slice va n vc] 93)) (.cells #[.int .i64 last, .int .i64 days, .int .i64 day, .int .i64 within, strV tag] 95)) (.cells #[.slice (some ⟨kb, 0, none⟩) n kc] 22)) id) (by omega)
    have b1 := kW.heap (hDk.heap (alloc_blk (alloc_at (w := w.alloc (.cells #[.slice va n vc] 93)) (n := w.heap.size + 1) (by simp) (.cells #[.int .i64 last, .int .i64 days, .int .i64 day, .int .i64 within, strV tag] 95)) (.cells #[.slice (some ⟨kb, 0, none⟩) n kc] 22)) id) (by omega)
    have b2 := kW.heap (hDk.heap (alloc_at (w := (w.alloc (.cells #[.slice va n vc] 93)).alloc (.cells #[.int .i64 last, .int .i64 days, .int .i64 day, .int .i64 within, strV tag] 95)) (n := w.heap.size + 1 + 1) (by simp) (.cells #[.slice (some ⟨kb, 0, none⟩) n kc] 22)) id) (by omega)
    refine ⟨by rw [cell_blk b0]; rfl, by rw [cell_blk b1]; rfl, by rw [cell_blk b2]; rfl, fun i hi => ?_⟩
    obtain ⟨lb, lo, rfl, _⟩ := v4 (by have := HN.out; omega)
    obtain ⟨s, hs⟩ : ∃ s, L[i]? = some s := ⟨_, List.getElem?_eq_getElem (by have := HN.out; omega)⟩
    have hc := (hL.range h32 hs) 0 (.int .i64 s.time) rfl
    have es : L[i]! = s := by rw [List.getElem!_eq_getElem?_getD, hs]; rfl
    refine ⟨lb, lo, rfl, ?_⟩
    rw [es, ← hc, Nat.add_zero]
    have hlt := World.block_lt_of_cell? w (a := ⟨lb, lo + i * 37 + 0, none⟩) hc
    have hne := hvk (by have := HN.out; omega) lb rfl
    exact World.cell?_of_block ((kW.block lb (by have := hDk.size; simp at this hlt; omega) hne).trans ((hDk.block lb (by simp at hlt ⊢; omega) id).trans (k3.block lb hlt id)))
  gi_wp2
  obtain ⟨M, hM⟩ : ∃ M, M = max days 0 := ⟨_, rfl⟩
  have M0 : 0 ≤ M := by omega
  rw [← hM]
  have hM2 : M.toNat = days.toNat := by omega
  have HM := Lib.hid hM
  clear hM
  have HFIN := Lib.hid (show ∀ (k : Nat) (rs : List Nat) (wr : World), k ≤ N → (k = N ∨ M = k) → (k : Int) ≤ M → ByI w1 wr kb k L P day B D rs → ∀ tmps, LeavesInM Fence.wide 9 Try.prog Try.f88 tmps (fun e w' => e = .returned (.tuple #[]) ∧ Keep (fun b => b = kb) w w' ∧ ∃ D, DaysOf L day D ∧ w'.heap[kb]? = some (.cells ((byB L P day B (D.take days.toNat)).map Value.bool).toArray 4 (0, 0))) (rs.map markD) .returning wr from by
    intro k rs wr h1 h2 h3 hI tmps
    refine leaves_marks (.tuple #[]) (fun W => results_none rfl _ _ _) rs wr hI.nd hI.mks fun W kW => ⟨rfl, ?_, D, hD, ?_⟩
    · have hs := hDk.size
      simp at hs
      exact ((k3.trans hDk).trans' hI.keep (fun _ _ e => e.elim) (fun _ _ e => e)).trans' kW (fun _ _ e => e) (fun i hi e => by have := hI.lo i e; omega)
    · have ht : D.take days.toNat = D.take k := by
        rcases h2 with h2 | h2
        · rw [List.take_of_length_le (by have := HNN.out; omega), List.take_of_length_le (by have := HNN.out; omega)]
        · congr 1; omega
      rw [ht]
      have hs := hDk.size
      simp at hs
      exact kW.heap hI.blk (fun e => by have := hI.lo _ e; omega))
  refine wpIn_loop_ghost_k (fun (g : Nat) (a' : Act) (wr : World) => ∃ (k : Nat) (rs : List Nat) (u10 u12 u22 u23 u24 u25 u26 u27 u28 u29 u30 u31 u32 u33 u34 u35 u36 u37 u38 u39 u40 u41 u42 u43 u44 u45 u46 : Value), g = N - k ∧ k ≤ N ∧ (k : Int) ≤ M ∧ ByI w1 wr kb k L P day B D rs ∧
    a' = { tmps := #[.slice va n vc, .slice ra n rc, .agg #[.int .i64 last, .int .i64 days, .int .i64 day, .int .i64 within, strV tag], .slice (some ⟨kb, 0, none⟩) n kc, .pointer (some ⟨w.heap.size, 0, none⟩), undef, .pointer (some ⟨w.heap.size + 1, 0, none⟩), .pointer (some ⟨w.heap.size + 1 + 1, 0, none⟩), .int .i64 (M - k), undef, u10, undef, u12, .pointer (some ⟨w.heap.size + 1, 1, none⟩), .int .i64 days, .int .i64 M, .slice va n vc, .pointer (some ⟨w.heap.size + 1, 2, none⟩), .int .i64 day, .slice da N dc, .int .i64 N, .int .i64 k, u22, u23, u24, u25, u26, u27, u28, u29, u30, u31, u32, u33, u34, u35, u36, u37, u38, u39, u40, u41, u42, u43, u44, u45, u46], defers := rs.map markD }) N ?start ?round
  case start =>
    refine ⟨0, [], undef, undef, undef, undef, undef, undef, undef, undef, undef, undef, undef, undef, undef, undef, undef, undef, undef, undef, undef, undef, undef, undef, undef, undef, undef, undef, undef, rfl, Nat.zero_le _, by omega, ⟨?_, ?_, List.nodup_nil, fun r h => by simp at h, fun r h => by simp at h⟩, by simp⟩
    · exact Keep.refl _ _
    · exact hDk.heap (k3.heap hk id) id
  case round =>
    rintro g a' wr ⟨k, rs, u10, u12, u22, u23, u24, u25, u26, u27, u28, u29, u30, u31, u32, u33, u34, u35, u36, u37, u38, u39, u40, u41, u42, u43, u44, u45, u46, hg, hk1, hk2, hI, rfl⟩ J K hJ hK
    obtain ⟨x0, x1, x2, x3⟩ := HBX wr hI.keep
    by_cases hlt : k < N
    · obtain ⟨d, hd⟩ : ∃ d, D[k]? = some d := ⟨_, List.getElem?_eq_getElem (by have := HNN.out; omega)⟩
      obtain ⟨db, dd, rfl, d5⟩ := d4 (by have := HNN.out; omega)
      have cD : wr.cell? ⟨db, dd + k, none⟩ = some (.int .i64 d) := by
        have h1 := d5 k (by have := HNN.out; omega)
        rw [List.getElem?_map, hd] at h1
        have hlt := World.block_lt_of_cell? w1 (a := ⟨db, dd + k, none⟩) h1
        have := hDf db rfl
        rw [World.cell?_of_block (hI.keep.block db hlt (by simp at this; omega)), h1]; rfl
      have dlo := hDf db rfl
      have i2 : (k : Int) < N := by omega
      by_cases hMk : M = k
      · have e8 : (M - (k : Int) == 0) = true := by simp; omega
        have HF := Lib.hid (HFIN.out k rs (wr.alloc (.cells #[.int .i64 d] 2)) hk1 (.inr hMk) hk2 ⟨hI.keep.alloc _, alloc_blk hI.blk _, hI.nd, hI.lo, fun r h => alloc_blk (hI.mks r h) _⟩)
        clear hI hJ hK hg d4 d5 v4 hMk
        gi_wp2
        exact HF.out _
      · have e8 : (M - (k : Int) == 0) = false := by simp; omega
        have HI := Lib.hid hI; have HJ := Lib.hid hJ; have HK := Lib.hid hK; have HG := Lib.hid hg
        clear hI hJ hK hg d4 d5 v4
        gi_wp2_with fail
        refine ⟨trivial, (callsIn_wide.2 (backward_any _ _ _ _)).mono ?_⟩
        rintro e w3 ⟨rfl, rfl⟩
        gi_wp2_with fail
        obtain ⟨W3, hW3⟩ : ∃ W3, ((wr.alloc (.cells #[.int .i64 d] 2)).alloc (.cells #[.slice ra n rc] 45)) = W3 := ⟨_, rfl⟩
        have kW3 : Keep (fun _ => False) wr W3 := by rw [← hW3]; exact ((Keep.refl _ wr).alloc _).alloc _
        have z3 : W3.heap.size = wr.heap.size + 2 := by rw [← hW3]; simp
        have bd : W3.heap[wr.heap.size]? = some (.cells #[.int .i64 d] 2 (0, 0)) := by rw [← hW3]; exact alloc_blk (alloc_new _ _) _
        have br : W3.heap[wr.heap.size + 1]? = some (.cells #[.slice ra n rc] 45 (0, 0)) := by rw [← hW3]; exact alloc_at (by simp) _
        rw [hW3]
        clear hW3
        have Z3 := Lib.hid z3
        have kw := hDk.size
        have kx := HI.out.keep.size
        simp at kw
        have hnpos : 0 < n := by
          have := List.mem_of_getElem? hd
          obtain ⟨_, s, hs, _⟩ := (hD.mem d).1 this
          have := List.length_pos_of_mem hs
          have := HN.out; omega
        have hrlt : ∀ b, vblk (.slice ra n rc) = some b → b < w.heap.size := fun b e => Sl.lt hr (by decide) (by have := HN.out; omega) e
        have hQ : ∀ q, (q = wr.heap.size + 1 ∨ vblk (.slice ra n rc) = some q) → q < W3.heap.size := by
          rintro q (rfl | e)
          · omega
          · have := hrlt q e; omega
        have hrW : ∀ W, Below W3.heap.size W3 W → Sl W 1 (.slice ra n rc) P.length (natsV P) := fun W hb => by
          have h1 : Keep (fun b => b = kb) w W := ((k3.trans hDk).trans' HI.out.keep (fun _ _ e => e.elim) (fun _ _ e => e)).trans' (kW3.trans (Keep.of_below hb _)) (fun _ _ e => e) (fun _ _ e => e.elim)
          rw [hP.len]
          exact Sl.keep hr h1 (fun b _ e => hrk b e)
        have HMK := Lib.hid (show ∀ W, Keep (fun b => b = kb) W3 W → W.heap[kb]? = some (.cells ((byB L P day B (D.take (k + 1))).map Value.bool).toArray 4 (0, 0)) → W.heap[W3.heap.size]? = some (.deferred (some [])) → ByI w1 W kb (k + 1) L P day B D (W3.heap.size :: rs) from by
          intro W kW bW dW
          have rlt : ∀ r ∈ rs, r < wr.heap.size := fun r hr => lt_blk' (HI.out.mks r hr)
          refine ⟨HI.out.keep.trans' (kW3.trans' kW (fun _ _ e => e.elim) (fun _ _ e => e)) (fun _ _ e => e) (fun _ _ e => e), bW, List.nodup_cons.2 ⟨fun h => by have := rlt _ h; omega, HI.out.nd⟩, fun r h => ?_, fun r h => ?_⟩
          · rcases List.mem_cons.1 h with rfl | h
            · omega
            · exact HI.out.lo r h
          · rcases List.mem_cons.1 h with rfl | h
            · exact dW
            · exact kW.heap (kW3.heap (HI.out.mks r h) id) (by have := HI.out.lo r h; omega))
        have e8' : wrap64 (M - (k : Int) - 1) = M - ((k + 1 : Nat) : Int) := by unfold wrap64; unfold In64 at hdays; omega
        have HM2 := Lib.hid hM2; have HE8 := Lib.hid e8'
        clear hM2 e8'
        refine wp_range (n := 9) (gf := 117) (lb := #[.pointer (some ⟨wr.heap.size + 1, 0, none⟩)]) (encs := encB) (xs := backs P) (Qb := fun q => q = wr.heap.size + 1 ∨ vblk (.slice ra n rc) = some q) rfl (fun _ _ => rfl) hQ
          (fun W hb => back1_iter _ (wr.heap.size + 1) (.slice ra n rc) P (fun q => vblk (.slice ra n rc) = some q) W (hrW W hb) (fun b e => e) (by have := hP.len; omega) ((hb.block _ (by omega)).trans br)) (fun _ => rfl)
          (fun Pv pre W => Keep (fun _ => False) W3 W ∧ (∀ x ∈ pre, dayOf L day x.2 ≠ d) ∧ ∀ q, Pv q → W3.heap.size + 2 ≤ q)
          (fun c pre W => c = .exit 2 ∧ ∃ i, dayPick L P day d = some i ∧ Keep (fun b => b = kb) W3 W ∧ W.heap[kb]? = some (.cells (((byB L P day B (D.take k)).set i true).map Value.bool).toArray 4 (0, 0))) ?i0 ?ip ?ixp
          (fun x => { tmps := #[.slice va n vc, .slice ra n rc, .agg #[.int .i64 last, .int .i64 days, .int .i64 day, .int .i64 within, strV tag], .slice (some ⟨kb, 0, none⟩) n kc, .pointer (some ⟨w.heap.size, 0, none⟩), undef, .pointer (some ⟨w.heap.size + 1, 0, none⟩), .pointer (some ⟨w.heap.size + 1 + 1, 0, none⟩), .int .i64 (wrap64 (M - k - 1)), undef, .pointer (some ⟨wr.heap.size, 0, none⟩), undef, .int .i64 x.2, .pointer (some ⟨w.heap.size + 1, 1, none⟩), .int .i64 days, .int .i64 M, .slice va n vc, .pointer (some ⟨w.heap.size + 1, 2, none⟩), .int .i64 day, .slice (some ⟨db, dd, none⟩) N dc, .int .i64 N, .int .i64 k, .bool true, .pointer (some ⟨db, dd + k, none⟩), .int .i64 d, .int .i64 (M - k), .bool false, .int .i64 (M - k), .int .i64 (wrap64 (M - k - 1)), .slice ra n rc, .func (.func 117) #[] #[.pointer (some ⟨wr.heap.size + 1, 0, none⟩)], .int .i64 x.1, .int .i64 x.2, u33, u34, u35, u36, u37, u38, u39, u40, u41, u42, u43, u44, u45, u46], defers := [] }) ?assign ?body ?done ?stop
        case assign =>
          intro l x W K hK
          gi_wp2
          exact hK
        case i0 => exact fun W Pv hb hPv => ⟨Keep.of_below hb _, fun x h => by simp at h, hPv⟩
        case ip =>
          rintro Pv pre W r o' ⟨j1, j2, j3⟩ hl
          have hk : Keep (· = W3.heap.size + 1) W (W.putObj (W3.heap.size + 1) o') := ⟨rfl, rfl, rfl, by rw [World.putObj_size]; exact Nat.le_refl _, fun k _ hn => World.putObj_heap_other (fun e => hn e)⟩
          exact ⟨j1.trans' hk (fun _ _ e => e) (fun i hi e => by omega), j2, j3⟩
        case ixp =>
          rintro c pre W r o' ⟨rfl, i, j1, j2, j3⟩ hl
          have hk : Keep (· = W3.heap.size + 1) W (W.putObj (W3.heap.size + 1) o') := ⟨rfl, rfl, rfl, by rw [World.putObj_size]; exact Nat.le_refl _, fun k _ hn => World.putObj_heap_other (fun e => hn e)⟩
          exact ⟨rfl, i, j1, j2.trans' hk (fun _ _ e => e) (fun i hi e => by omega), hk.heap j3 (by omega)⟩
        case body =>
          rintro l Pv pre ⟨kk, i⟩ W rfl ⟨j1, j2, j3⟩ hpre ⟨r, hl⟩ hD2 hP2
          have hx : (kk, i) ∈ backs P := hpre.subset (by simp)
          have hi : i < n := by have := hP.lt (backs_mem hx); have := HN.out; omega
          have KW : Keep (fun b => b = kb) w1 W := HI.out.keep.trans' (kW3.trans j1) (fun _ _ e => e) (fun _ _ e => e.elim)
          obtain ⟨y0, y1, y2, y3⟩ := HBX W KW
          obtain ⟨lb, lo, rfl, y4⟩ := y3 i hi
          have y5 : W.cell? ⟨wr.heap.size, 0, none⟩ = some (.int .i64 d) := by rw [cell_blk (j1.heap bd id)]; rfl
          have bW := j1.heap (kW3.heap HI.out.blk id) id
          obtain ⟨BL, hBL⟩ : ∃ BL, BL = byB L P day B (D.take k) := ⟨_, rfl⟩
          have hBz : BL.length = n := by rw [hBL, byB_len, hB]; exact HN.out.symm
          have hday : 1 ≤ day := ((hD.mem d).1 (List.mem_of_getElem? hd)).1
          have hti : In64 L[i]!.time := by rw [getElem!_pos L i (by have := HN.out; omega)]; exact ht _ (List.getElem_mem _)
          have hfl := floor_any hti hday
          rw [← hBL] at bW
          have y6 : W.cell? ⟨kb, i, none⟩ = some (.bool BL[i]!) := by
            rw [cell_blk bW, List.getElem?_toArray, List.getElem?_map, List.getElem?_eq_getElem (by omega), getElem!_pos BL i (by omega)]; rfl
          have y7 : W.frozen? ⟨kb, i, none⟩ = false := frozen_blk bW i
          have htd : dayOf L day i = L[i]!.time / day := rfl
          rw [← htd] at hfl
          have i1 : (0 : Int) ≤ i := by omega
          have i3 : (i : Int) < n := by omega
          have hsz4 : W3.heap.size + 2 ≤ W.heap.size := by have := lt_blk hl; omega
          have HBW := Lib.hid bW; have HJ1 := Lib.hid j1; have HJ2 := Lib.hid j2; have HJ3 := Lib.hid j3; have HFL := Lib.hid hfl; have HPR := Lib.hid hpre; have HP2 := Lib.hid hP2; have HBZ := Lib.hid hBz; have HBL := Lib.hid hBL
          obtain ⟨td, hTD⟩ : ∃ td, td = dayOf L day i := ⟨_, rfl⟩
          rw [← hTD] at HFL
          have HTD := Lib.hid hTD
          obtain ⟨ti, hTI⟩ : ∃ ti, ti = L[i]!.time := ⟨_, rfl⟩
          rw [← hTI] at HFL y4
          clear bW j1 j2 j3 hfl hpre hP2 hTD hTI hBz hBL hx hi hl hD2 hti htd y3 x3
          by_cases heq : td = d
          · have he : (td == d) = true := by simp [heq]
            have HEQ := Lib.hid heq
            clear heq
            gi_wp2_with fail
            refine round_quiet (by kernel_rfl) (by kernel_rfl) (by kernel_rfl) (by rintro ⟨_, _, h⟩; exact h) ?_
            repeat (quiet_step (exact Calls.quiet_of_same (HFL.out _)))
            refine wpQuiet_nil ?_
            rintro _ ⟨nq, rfl⟩
            gi_wp2
            have hkk : Keep (fun b => b = kb) W ((W.drewN nq).setCell ⟨kb, i, none⟩ (.bool true)) := ((Keep.refl (fun b => b = kb) W).drewN nq).setCell (p := ⟨kb, i, none⟩) (fun _ => rfl) _
            refine ⟨KeepB.of_keep hkk ?_, rfl, i, pick_of HPR.out HJ2.out (by rw [← HEQ.out, HTD.out]), (HJ1.out.trans' hkk (fun _ _ e => e.elim) (fun _ _ e => e)), ?_⟩
            · rintro q (e | e | e | e | e)
              · have := Z3.out; omega
              · have := Z3.out; omega
              · have := HP2.out q e; omega
              · have := Z3.out; omega
              · have := hrlt q e; have := Z3.out; exact ⟨by omega, hrk q e⟩
            · rw [set_blk (w := W.drewN nq) HBW.out, ← HBL.out]
              simp
          · have he : (td == d) = false := by simpa using heq
            have HEQ := Lib.hid heq
            clear heq
            gi_wp2_with fail
            refine round_quiet (by kernel_rfl) (by kernel_rfl) (by kernel_rfl) (by rintro ⟨_, _, h⟩; exact h) ?_
            repeat (quiet_step (exact Calls.quiet_of_same (HFL.out _)))
            refine wpQuiet_nil ?_
            rintro _ ⟨nq, rfl⟩
            gi_wp2
            refine ⟨KeepB.refl _ _, HJ1.out.drewN nq, fun x hx => ?_, HJ3.out⟩
            rcases List.mem_append.1 hx with hx | hx
            · exact HJ2.out x hx
            · simp at hx; rw [hx]; rw [← HTD.out]; exact HEQ.out
        case done =>
          rintro Pv W ⟨j1, j2, j3⟩ hD2
          have hB' := HMK.out W (j1.mono (fun _ _ e => e.elim)) (by rw [byB_snoc _ _ _ _ hd]; unfold setDay; rw [pick_none j2]; exact j1.heap (kW3.heap HI.out.blk id) id) hD2
          have HB := Lib.hid hB'
          clear j1 j2 j3 hD2 hB' x0 x1 x2 x3 cD br bd
          gi_wp2
          rw [HE8.out]
          exact HK.out _ _ (Handed.intro (N - (k + 1)) (by have := HG.out; omega) (HJ.out _ _ _ ⟨k + 1, W3.heap.size :: rs, _, _, _, _, _, _, _, _, _, _, _, _, _, _, _, _, _, _, _, _, _, _, _, _, _, _, _, rfl, by omega, by omega, HB.out, rfl⟩))
        case stop =>
          rintro c pre W hpre ⟨rfl, i, j1, j2, j3⟩ hD2
          have hB' := HMK.out W j2 (by rw [byB_snoc _ _ _ _ hd]; unfold setDay; rw [j1]; exact j3) hD2
          have HB := Lib.hid hB'
          clear j1 j2 j3 hD2 hB' x0 x1 x2 x3 cD br bd
          gi_wp2
          rw [HE8.out]
          exact HK.out _ _ (Handed.intro (N - (k + 1)) (by have := HG.out; omega) (HJ.out _ _ _ ⟨k + 1, W3.heap.size :: rs, _, _, _, _, _, _, _, _, _, _, _, _, _, _, _, _, _, _, _, _, _, _, _, _, _, _, _, rfl, by omega, by omega, HB.out, rfl⟩))
    · have HF := Lib.hid (HFIN.out k rs wr hk1 (.inl (by omega)) hk2 hI)
      have hkN : (k : Int) = N := by omega
      clear hI hJ hK hg d4 v4
      gi_wp2
      exact HF.out _
end Go.Proofs.Ytgnigkghkldcfaa
