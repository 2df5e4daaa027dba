/-
  coldstorelaw06.step: Drop; no operation; where the fuse blows.
-/
import Derived.Test.YtgnigkghkldcfaaStep6
namespace Go.Proofs.Ytgnigkghkldcfaa
open Go.RowKit Go.Proofs Go.Lib

theorem bytes_sl {w : World} {v : Value} {b : Bs} (h : BytesAt w v b) : ∃ a c, v = .slice a b.length c := let ⟨_, a, c, e, _⟩ := h; ⟨a, c, e⟩

set_option maxRecDepth 100000 in
set_option maxHeartbeats 8000000 in
theorem step_drop {w : World} {sb : Nat} {f : Value} {S RS : Nat → Prop} {s : OS} {v : Value} {name : Bs} {ba : Option Addr} {bn bc : Nat} {b : Bs} (hs : St w sb f S s) (hr : Rf w v RS s) (hd : ∀ x, RS x → ¬ S x ∧ x < w.heap.size) (hb : BytesAt w (.slice ba bn bc) b) (hbr : ∀ x, 0 < b.length → vblk (.slice ba bn bc) = some x → RS x)
    (hl : s.left ≠ 0) (hl1 : -1 ≤ s.left ∧ s.left ≤ 9223372036854775807) (ho : s.ops < 4611686018427387904) (hn : name.length ≤ 100) :
    Calls Try.prog 24 #[.pointer (some ⟨sb, 0, none⟩), v, .agg #[.int .i64 3, .string ⟨name.toArray⟩, .slice ba bn bc]] w (StepPost sb f S RS (s.drop name) w) := by
  obtain ⟨ra, rn, rc, fa, fc, L, rfl, hrn, hr⟩ := hr.agg
  obtain ⟨q, o, l, fn, hq⟩ : ∃ q o l fn, refV (.slice ra rn rc) (.slice fa s.faults.length fc) s = .agg #[.slice ra rn rc, .int .i64 q, .int .i64 o, .int .i64 l, .slice fa fn fc] ∧ fn = s.faults.length := ⟨_, _, _, _, rfl, rfl⟩
  obtain ⟨hq, hfn⟩ := hq
  rw [hq]
  rw [← hfn] at hr hq
  have j := stj_laid (kind := 3) (name := name) hs hr hq hd hb hbr
  have hok := hs.ok
  have hsz : (⟨name.toArray⟩ : ByteArray).size ≤ maxLen := by unfold maxLen; simp [ByteArray.size]; omega
  have J := Lib.hid j
  clear j hs hr hd hb hbr hq hfn hrn
  go_enter Try.func24, Try.ntmps24
  go_wp2_with fail
  refine (J.out.st.drop hl ho ⟨name.toArray⟩ hsz).mono ?_
  rintro e W1 ⟨rfl, h1, t1⟩
  have j1 := J.out.turn h1 t1
  obtain ⟨⟨a0, a1, a2, a3, a4⟩, -⟩ := five_cells j1.ax
  obtain ⟨b0, b1, b2⟩ := j1.cells
  have J1 := Lib.hid j1
  obtain ⟨c, hc⟩ : ∃ c, c = s.getCode name := ⟨_, rfl⟩
  have ec : s.getCode (⟨name.toArray⟩ : ByteArray).data.toList = c := hc.symm
  rw [ec]
  have HC := Lib.hid hc
  clear j1 h1 t1 ec hc
  go_wp2_with fail
  refine (r6drop_any J1.out.ref J1.out.rl hl hl1 ho hok ⟨name.toArray⟩).mono ?_
  rintro e W2 ⟨v', rfl, hr2, k2⟩
  have j2 := J1.out.still k2
  obtain ⟨ra2, rn2, rc2, q2, o2, l2, fa2, fn2, fc2, rfl⟩ := hr2.lit
  obtain ⟨z0, z1⟩ := five_cells j2.cr
  have ec : s.getCode (⟨name.toArray⟩ : ByteArray).data.toList = c := HC.out.symm
  rw [ec]
  have fin : ∀ W9, Keep (· = w.heap.size + 2) W2 W9 → StepPost sb f S RS (s.drop name) w (.returned (.tuple #[.agg #[.slice ra2 rn2 rc2, .int .i64 q2, .int .i64 o2, .int .i64 l2, .slice fa2 fn2 fc2], .bool true])) W9 := fun W9 k9 =>
    J1.out.fin k2 hr2 (fun x e => e) (fun x e => .inl e) k9
  have J2 := Lib.hid j2; have HFIN := Lib.hid fin
  clear j2 hr2 k2 fin ec z0 z1
  go_wp2_with (refine wpList_store_box rfl 35 (.tmp 6) (.tmp 119) rfl (w.heap.size + 1 + 1) #[.slice ra2 rn2 rc2, .int .i64 q2, .int .i64 o2, .int .i64 l2, .slice fa2 fn2 fc2] (by rfl) (by rfl) (alloc_blk J2.out.cr _) (by kernel_rfl) rfl (five_one _ _ _ _ _ _ _ _ _) ?_; intro W9 hA9 kA9)
  refine bodyPost_ret (results_cell_tmp1 _ _ _ _ _ _ _ (by rfl) hA9 Try.underlying35 rfl (by kernel_rfl) rfl) rfl ?_
  exact HFIN.out _ (((Keep.refl _ W2).alloc _).trans kA9)
end Go.Proofs.Ytgnigkghkldcfaa
