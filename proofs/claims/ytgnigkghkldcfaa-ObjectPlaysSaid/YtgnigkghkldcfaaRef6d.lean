/-
  coldstoreref06.Put, where it puts nothing.
-/
import Derived.Test.YtgnigkghkldcfaaRef6c
namespace Go.Proofs.Ytgnigkghkldcfaa
open Go.RowKit Go.Proofs Go.Lib

theorem Rf.op_ok {s : OS} (h : s.Ok) (hs : s.ops < 4611686018427387904) : s.op.Ok := ⟨h.quota, h.size, ⟨by have := h.ops.1; show 0 ≤ s.ops + 1; omega, by show s.ops + 1 ≤ _; omega⟩, h.rising, h.names, h.many⟩

def PutRefNo (RS : Nat → Prop) (s : OS) (c : Int) (w : World) (e : Ending) (w' : World) : Prop := ∃ v', e = .returned (.tuple #[v', .int .i64 c]) ∧ Rf w' v' RS s ∧ Keep (fun _ => False) w w'

/-- the two boxes of a reference's function, and the store read in the first -/
structure RBoxes (w : World) (RS : Nat → Prop) (s : OS) (ra : Option Addr) (rn rc : Nat) (fa : Option Addr) (fn fc : Nat) (L : List ((Bs × Bs) × Value)) (q o l : Int) (W : World) : Prop where
  a : W.heap[w.heap.size]? = some (.cells #[.slice ra rn rc, .int .i64 q, .int .i64 o, .int .i64 l, .slice fa fn fc] 35 (0, 0))
  b : W.heap[w.heap.size + 1]? = some (.cells #[.slice none 0 0, .int .i64 0, .int .i64 0, .int .i64 0, .slice none 0 0] 35 (0, 0))
  r : RfL W (.slice ra rn rc) (.slice fa fn fc) L RS s
  n : rn = L.length
  v : refV (.slice ra rn rc) (.slice fa fn fc) s = .agg #[.slice ra rn rc, .int .i64 q, .int .i64 o, .int .i64 l, .slice fa fn fc]
  keep : Keep (fun _ => False) w W
section
variable {w : World} {RS : Nat → Prop} {s : OS} {ra : Option Addr} {rn rc : Nat} {fa : Option Addr} {fn fc : Nat} {L : List ((Bs × Bs) × Value)} {q o l : Int} {W W' : World}
theorem RBoxes.still (j : RBoxes w RS s ra rn rc fa fn fc L q o l W) (hk : Keep (fun _ => False) W W') : RBoxes w RS s ra rn rc fa fn fc L q o l W' :=
  ⟨hk.heap j.a id, hk.heap j.b id, j.r.keep0 hk, j.n, j.v, j.keep.trans hk⟩
theorem RBoxes.fin (j : RBoxes w RS s ra rn rc fa fn fc L q o l W) (hRS : ∀ b, RS b → b < w.heap.size) (hk : Keep (· = w.heap.size + 1) W W') (c : Int) :
    PutRefNo RS s c w (.returned (.tuple #[.agg #[.slice ra rn rc, .int .i64 q, .int .i64 o, .int .i64 l, .slice fa fn fc], .int .i64 c])) W' :=
  ⟨_, rfl, by rw [← j.v]; exact ⟨_, _, L, rfl, j.r.keep hk (fun b e h => by have := hRS b h; omega)⟩, j.keep.trans' hk (fun _ _ e => e) (fun i hi e => by omega)⟩
end

/-- behind the operation's beginning -/
theorem rboxes_of {w w1 : World} {RS : Nat → Prop} {s : OS} {v1 : Value} (hRS : ∀ b, RS b → b < w.heap.size) (h : Rf w1 v1 RS s) :
    ∃ ra rn rc fa fn fc q o l L, v1 = .agg #[.slice ra rn rc, .int .i64 q, .int .i64 o, .int .i64 l, .slice fa fn fc] ∧ q = s.quota ∧ (∀ W, Keep (· = w.heap.size) w1 W → W.heap[w.heap.size]? = some (.cells #[.slice ra rn rc, .int .i64 q, .int .i64 o, .int .i64 l, .slice fa fn fc] 35 (0, 0)) →
      W.heap[w.heap.size + 1]? = some (.cells #[.slice none 0 0, .int .i64 0, .int .i64 0, .int .i64 0, .slice none 0 0] 35 (0, 0)) → Keep (fun _ => False) w W → RBoxes w RS s ra rn rc fa fn fc L q o l W) := by
  obtain ⟨ra, rn, rc, fa, fc, L, rfl, hrn, h1⟩ := h.agg
  exact ⟨ra, rn, rc, fa, _, fc, _, _, _, L, rfl, rfl, fun W hk ha hb hkk => ⟨ha, hb, h1.keep hk (fun b e h => by have := hRS b h; omega), hrn, rfl, hkk⟩⟩

set_option maxRecDepth 100000 in
set_option maxHeartbeats 4000000 in
theorem r6put_code {w : World} {v : Value} {RS : Nat → Prop} {s : OS} (h : Rf w v RS s) (hRS : ∀ b, RS b → b < w.heap.size) (hl : s.left ≠ 0) (hl1 : -1 ≤ s.left ∧ s.left ≤ 9223372036854775807) (ho : s.ops < 4611686018427387904) (hok : s.Ok) (nm : ByteArray) (ba : Option Addr) (bn bc : Nat)
    (hc : s.code ≠ 0) :
    Calls Try.prog 64 #[v, .string nm, .slice ba bn bc] w (PutRefNo RS s.op s.code w) := by
  obtain ⟨rv, fv, L, rfl, h⟩ := h
  obtain ⟨ra, rn, rc, rfl⟩ : ∃ a n c, rv = .slice a n c := let ⟨_, a, c, e, _⟩ := h.rows.row; ⟨a, _, c, e⟩
  obtain ⟨fa, fn, fc, rfl⟩ : ∃ a n c, fv = .slice a n c := let ⟨_, a, c, e, _⟩ := h.faults; ⟨a, _, c, e⟩
  have H := Lib.hid (show Rf w (refV (.slice ra rn rc) (.slice fa fn fc) s) RS s from ⟨_, _, L, rfl, h⟩)
  clear h
  have k2 : Keep (fun _ => False) w ((w.alloc (.cells #[.slice ra rn rc, .int .i64 s.quota, .int .i64 s.ops, .int .i64 s.left, .slice fa fn fc] 35)).alloc (.cells #[.slice none 0 0, .int .i64 0, .int .i64 0, .int .i64 0, .slice none 0 0] 35)) := ((Keep.refl _ _).alloc _).alloc _
  have hA : ((w.alloc (.cells #[.slice ra rn rc, .int .i64 s.quota, .int .i64 s.ops, .int .i64 s.left, .slice fa fn fc] 35)).alloc (.cells #[.slice none 0 0, .int .i64 0, .int .i64 0, .int .i64 0, .slice none 0 0] 35)).heap[w.heap.size]? = some (.cells #[.slice ra rn rc, .int .i64 s.quota, .int .i64 s.ops, .int .i64 s.left, .slice fa fn fc] 35 (0, 0)) := alloc_blk (alloc_new _ _) _
  have hB : ((w.alloc (.cells #[.slice ra rn rc, .int .i64 s.quota, .int .i64 s.ops, .int .i64 s.left, .slice fa fn fc] 35)).alloc (.cells #[.slice none 0 0, .int .i64 0, .int .i64 0, .int .i64 0, .slice none 0 0] 35)).heap[w.heap.size + 1]? = some (.cells #[.slice none 0 0, .int .i64 0, .int .i64 0, .int .i64 0, .slice none 0 0] 35 (0, 0)) := by
    have := alloc_new (w.alloc (.cells #[.slice ra rn rc, .int .i64 s.quota, .int .i64 s.ops, .int .i64 s.left, .slice fa fn fc] 35)) (.cells #[.slice none 0 0, .int .i64 0, .int .i64 0, .int .i64 0, .slice none 0 0] 35)
    rw [World.size_alloc] at this
    exact this
  have K2 := Lib.hid k2; have HA := Lib.hid hA; have HB := Lib.hid hB; have HRS := Lib.hid hRS; have HC0 := Lib.hid hc
  clear k2 hA hB hRS
  unfold refV
  go_enter Try.func64, Try.ntmps64
  go_wp2_with fail
  refine (r6op_any (H.out.keep0 K2.out) hl hl1 ⟨hok.ops.1, ho⟩).mono ?_
  rintro e w1 ⟨v1, rfl, hR1, k1⟩
  have hA1 := k1.heap HA.out id
  have hB1 := k1.heap HB.out id
  have K1 := Lib.hid (K2.out.trans k1)
  obtain ⟨ra1, rn1, rc1, fa1, fn1, fc1, q, o, l, L1, rfl, hq, mk⟩ := rboxes_of (w := w) HRS.out hR1
  have HA1 := Lib.hid hA1; have HB1 := Lib.hid hB1; have MK := Lib.hid mk
  have hcz : (s.code == 0) = false := by simpa using hc
  clear hA1 hB1 mk hq k1 hR1
  go_wp2_with (first | (refine wpList_store_box rfl 35 (.tmp 3) (.tmp 16) rfl w.heap.size #[.slice ra1 rn1 rc1, .int .i64 q, .int .i64 o, .int .i64 l, .slice fa1 fn1 fc1] (by rfl) (by rfl) HA1.out (by kernel_rfl) rfl (five_one _ _ _ _ _ _ _ _ _) ?_; intro W2 hA2 kA2; have J := MK.out W2 kA2 hA2 (kA2.heap HB1.out (by omega)) (K1.out.trans' kA2 (fun _ _ e => e) (fun i hi e => by omega)); obtain ⟨⟨a0, a1, a2, a3, a4⟩, af⟩ := five_cells hA2; have HJ := Lib.hid J; clear J hA2 kA2) |
    (refine wpList_store_box rfl 35 (.tmp 6) (.tmp 20) rfl (w.heap.size + 1) #[.slice ra1 rn1 rc1, .int .i64 q, .int .i64 o, .int .i64 l, .slice fa1 fn1 fc1] (by rfl) (by rfl) HJ.out.b (by kernel_rfl) rfl (five_one _ _ _ _ _ _ _ _ _) ?_; intro W3 hB3 kB3))
  refine bodyPost_ret (results_cell_tmp1 _ _ _ _ _ _ _ (by rfl) hB3 Try.underlying35 rfl (by kernel_rfl) rfl) rfl ?_
  exact HJ.out.fin HRS.out kB3 _
end Go.Proofs.Ytgnigkghkldcfaa
