/-
  coldstoreref06.Put, behind its beginning. (Printed by wip/gen/ref6put.py.)
-/
import Derived.Test.YtgnigkghkldcfaaRef6d
import Derived.Test.YtgnigkghkldcfaaOwnNext
namespace Go.Proofs.Ytgnigkghkldcfaa
open Go.RowKit Go.Proofs Go.Lib

/-- what Put comes to -/
def PutRef (RS : Nat → Prop) (s : OS) (nm b : Bs) (w : World) (e : Ending) (w' : World) : Prop :=
  (s.putCode nm b ≠ 0 ∧ PutRefNo RS s.op (s.putCode nm b) w e w') ∨
  (s.putCode nm b = 0 ∧ ∃ v', e = .returned (.tuple #[v', .int .i64 0]) ∧ Rf w' v' (fun x => RS x ∨ (w.heap.size ≤ x ∧ x < w'.heap.size)) (s.put nm b) ∧ Keep (fun _ => False) w w')

theorem putCode_eq {s : OS} (hc : s.code = 0) {nm b : Bs} : s.putCode nm b = if nameOK nm = false then 37 else s.roomCode nm b := by unfold OS.putCode; rw [if_neg (by rw [hc]; decide)]

theorem sizeR_bound : ∀ (row : List (Bs × Bs)), (∀ r ∈ row, r.2.length ≤ 1048576) → sizeR row ≤ row.length * 1048576
  | [], _ => by simp [sizeR]
  | x :: r, h => by
    rw [sizeR_cons]
    have h1 := h x (by simp)
    have h2 := sizeR_bound r (fun y hy => h y (by simp [hy]))
    simp only [List.length_cons]
    omega
theorem refV_inj {rv fv : Value} {s : OS} {q o l : Int} (h : refV rv fv s = .agg #[rv, .int .i64 q, .int .i64 o, .int .i64 l, fv]) : q = s.quota ∧ o = s.ops ∧ l = s.left := by
  unfold refV at h
  simp at h
  exact ⟨h.1.symm, h.2.1.symm, h.2.2.symm⟩
/-- the end of Put -/
theorem put_fin {w X W W' : World} {RS : Nat → Prop} {s : OS} {nm b : Bs} {L' : List ((Bs × Bs) × Value)} {fa : Option Addr} {fn fc : Nat} {q o l : Int} {bv : Value} (hok : s.Ok) (hc : s.putCode nm b = 0) (hk1 : Keep (fun _ => False) w X)
    (hfa : Sl X 1 (.slice fa fn fc) s.op.faults.length (s.op.faults.map .bool)) (hfb : ∀ x, 0 < s.op.faults.length → vblk (.slice fa fn fc) = some x → RS x) (hv : q = s.quota ∧ o = s.op.ops ∧ l = s.op.left)
    (hL : L'.map (·.1) = delK nm s.row) (hbb : ∀ p ∈ L', BytesAt X p.2 p.1.2 ∧ ∀ x, 0 < p.1.2.length → vblk p.2 = some x → RS x) (hbv : BytesAt X bv b ∧ ∀ x, 0 < b.length → vblk bv = some x → RS x)
    {g : Option Addr} {n c : Nat} (hown : W.ownsRow X.heap.size 133 2 (.slice g n c) n ((L'.take (posK s.row nm)).flatMap thCells ++ [strV nm, bv] ++ (L'.drop (posK s.row nm)).flatMap thCells)) (hkX : Keep (fun _ => False) X W) (hlo : ∀ x, vblk (.slice g n c) = some x → X.heap.size ≤ x)
    (hX2 : w.heap.size + 2 ≤ X.heap.size) (hRS : ∀ x, RS x → x < w.heap.size) (hk2 : Keep (fun x => x = w.heap.size ∨ x = w.heap.size + 1) W W') :
    PutRef RS s nm b w (.returned (.tuple #[.agg #[.slice g n c, .int .i64 q, .int .i64 o, .int .i64 l, .slice fa fn fc], .int .i64 0])) W' := by
  have hkx : Keep (fun x => x = w.heap.size ∨ x = w.heap.size + 1) X W' := hkX.trans' hk2 (fun _ _ e => e.elim) (fun _ _ e => e)
  have hkk : Keep (fun _ => False) w W' := (hk1.trans hkX).trans' hk2 (fun _ _ e => e) (fun i hi e => by omega)
  refine .inr ⟨hc, _, rfl, ⟨.slice g n c, .slice fa fn fc, L'.take (posK s.row nm) ++ ([((nm, b), bv)] ++ L'.drop (posK s.row nm)), ?_, ?_, ?_, own_sh hown, ?_, ?_, ?_, ?_⟩, hkk⟩
  · unfold OS.put; rw [if_pos hc]; obtain ⟨rfl, rfl, rfl⟩ := hv; rfl
  · have hsl := Sl.keep (Sl.of_owns hown).1 hk2 (fun x _ e h => by have := hlo x e; omega)
    have e1 : (L'.take (posK s.row nm)).flatMap thCells ++ [strV nm, bv] ++ (L'.drop (posK s.row nm)).flatMap thCells = (L'.take (posK s.row nm) ++ ([((nm, b), bv)] ++ L'.drop (posK s.row nm))).flatMap thCells := by
      simp [List.flatMap_append, thCells]
    rw [e1] at hsl
    have e2 : n = (L'.take (posK s.row nm) ++ ([((nm, b), bv)] ++ L'.drop (posK s.row nm))).length := by
      have := hsl.1
      rw [flat_th_length] at this
      omega
    refine ⟨by rw [← e2]; exact hsl, fun p hp => ?_⟩
    rcases List.mem_append.1 hp with h | h
    · exact Sl.keep (hbb p (List.mem_of_mem_take h)).1 hkx (fun x hn e h' => by have := hRS x ((hbb p (List.mem_of_mem_take h)).2 x hn e); omega)
    · rcases List.mem_append.1 h with h | h
      · simp at h; subst h; exact Sl.keep hbv.1 hkx (fun x hn e h' => by have := hRS x (hbv.2 x hn e); omega)
      · exact Sl.keep (hbb p (List.mem_of_mem_drop h)).1 hkx (fun x hn e h' => by have := hRS x ((hbb p (List.mem_of_mem_drop h)).2 x hn e); omega)
  · unfold OS.put; rw [if_pos hc]
    have h1 : (L'.take (posK s.row nm)).map (·.1) = (delK nm s.row).take (posK s.row nm) := by rw [List.map_take, hL]
    have h2 : (L'.drop (posK s.row nm)).map (·.1) = (delK nm s.row).drop (posK s.row nm) := by rw [List.map_drop, hL]
    rw [List.map_append, List.map_append, h1, h2]
    exact putK_pos hok.rising nm b
  · unfold OS.put; rw [if_pos hc]; exact Sl.keep hfa hkx (fun x hn e h' => by have := hRS x (hfb x hn e); omega)
  · intro x _ e
    have h1 := hlo x e
    have h2 := (own_lt hown x e).2
    exact .inr ⟨by omega, Nat.lt_of_lt_of_le h2 hk2.size⟩
  · intro p hp x h1 h2
    rcases List.mem_append.1 hp with h | h
    · exact .inl ((hbb p (List.mem_of_mem_take h)).2 x h1 h2)
    · rcases List.mem_append.1 h with h | h
      · simp at h; subst h; exact .inl (hbv.2 x h1 h2)
      · exact .inl ((hbb p (List.mem_of_mem_drop h)).2 x h1 h2)
  · unfold OS.put; rw [if_pos hc]; exact fun x h1 h2 => .inl (hfb x h1 h2)
theorem strV_data (nm : ByteArray) : strV nm.data.toList = .string nm := by cases nm; simp [strV]

/-- what the three appends rest on -/
structure TailF (w X : World) (RS : Nat → Prop) (s : OS) (L : List ((Bs × Bs) × Value)) (ra : Option Addr) (rn rc P : Nat) (q o l : Int) (fa : Option Addr) (fn fc : Nat) (nm : ByteArray) (ba : Option Addr) (bn bc : Nat) (b : Bs) : Prop where
  own0 : (X.alloc (.cells #[] 133)).ownsRow X.heap.size 133 2 (.slice (some ⟨X.heap.size, 0, none⟩) 0 0) 0 []
  src0 : Sl (X.alloc (.cells #[] 133)) 2 (.slice ra P rc) P ((L.take P).flatMap thCells)
  one0 : ∀ u ∈ (L.take P).flatMap thCells, u.oneCell' = true
  one1 : ∀ u ∈ [Value.string nm, .slice ba bn bc], u.oneCell' = true
  one3 : ∀ u ∈ (L.drop P).flatMap thCells, u.oneCell' = true
  h00 : ∀ x, vblk (.slice (some ⟨X.heap.size, 0, none⟩) 0 0) = some x → X.heap.size ≤ x
  n1 : 0 + P ≤ maxLen
  n2 : (0 + P) * 40 ≤ 140737488355328
  n3 : X.heap.size ≤ (X.alloc (.cells #[] 133)).heap.size
  n4 : P + 1 ≤ maxLen
  n5 : (P + 1) * 40 ≤ 140737488355328
  n6 : P + 1 + (rn - P) ≤ maxLen
  n7 : (P + 1 + (rn - P)) * 40 ≤ 140737488355328
  row : Sl X 2 (.slice ra rn rc) rn (L.flatMap thCells)
  le : P ≤ rn
  few : rn ≤ 4096
  len : rn = L.length
  vv : q = s.quota ∧ o = s.op.ops ∧ l = s.op.left
  fa' : Sl X 1 (.slice fa fn fc) s.op.faults.length (s.op.faults.map .bool)
  fb : ∀ x, 0 < s.op.faults.length → vblk (.slice fa fn fc) = some x → RS x
  dl : L.map (·.1) = delK nm.data.toList s.row
  bb : ∀ p ∈ L, BytesAt X p.2 p.1.2 ∧ ∀ x, 0 < p.1.2.length → vblk p.2 = some x → RS x
  bv : BytesAt X (.slice ba bn bc) b ∧ ∀ x, 0 < b.length → vblk (.slice ba bn bc) = some x → RS x
  x2 : w.heap.size + 2 ≤ X.heap.size
  a : X.heap[w.heap.size]? = some (.cells #[.slice ra rn rc, .int .i64 q, .int .i64 o, .int .i64 l, .slice fa fn fc] 35 (0, 0))
  b' : X.heap[w.heap.size + 1]? = some (.cells #[.slice none 0 0, .int .i64 0, .int .i64 0, .int .i64 0, .slice none 0 0] 35 (0, 0))
  keep : Keep (fun _ => False) w X

theorem tail_facts {w W5 X : World} {RS : Nat → Prop} {s : OS} {ra0 : Option Addr} {rn0 rc0 : Nat} {fa : Option Addr} {fn fc : Nat} {L0 L : List ((Bs × Bs) × Value)} {q o l : Int} {ra : Option Addr} {rn rc P : Nat} {nm : ByteArray} {ba : Option Addr} {bn bc : Nat} {b : Bs} (J : RBoxes w RS s.op ra0 rn0 rc0 fa fn fc L0 q o l W5)
    (a : X.heap[w.heap.size]? = some (.cells #[.slice ra rn rc, .int .i64 q, .int .i64 o, .int .i64 l, .slice fa fn fc] 35 (0, 0))) (b' : X.heap[w.heap.size + 1]? = some (.cells #[.slice none 0 0, .int .i64 0, .int .i64 0, .int .i64 0, .slice none 0 0] 35 (0, 0)))
    (keep : Keep (fun _ => False) w X) (hT : ThAt X (.slice ra rn rc) L) (fa' : Sl X 1 (.slice fa fn fc) s.op.faults.length (s.op.faults.map .bool)) (hP : P ≤ rn) (few : rn ≤ 4096) (len : rn = L.length) (dl : L.map (·.1) = delK nm.data.toList s.row) (hmem : ∀ p ∈ L, p ∈ L0)
    (hbn : bn = b.length) (hbv : BytesAt w (.slice ba b.length bc) b) (hbr : ∀ x, 0 < b.length → vblk (.slice ba b.length bc) = some x → RS x) : TailF w X RS s L ra rn rc P q o l fa fn fc nm ba bn bc b := by
  have hshp : ∀ p ∈ L, ∃ a n c, p.2 = .slice a n c := fun p hp => let ⟨_, a, c, e, _⟩ := hT.bytes p hp; ⟨a, _, c, e⟩
  have row : Sl X 2 (.slice ra rn rc) rn (L.flatMap thCells) := by have := hT.row; rw [← len] at this; exact this
  refine { own0 := World.ownsRow_made X #[] 0 (Nat.le_refl _) (Nat.zero_le _) rfl, src0 := ?_, one0 := thCells_one _ (fun p hp => hshp p (List.mem_of_mem_take hp)), one1 := ?_, one3 := thCells_one _ (fun p hp => hshp p (List.mem_of_mem_drop hp)), h00 := fun x e => by simp [vblk] at e; omega,
           n1 := by unfold maxLen; omega, n2 := by omega, n3 := by simp, n4 := by unfold maxLen; omega, n5 := by omega, n6 := by unfold maxLen; omega, n7 := by omega, row := row, le := hP, few := few, len := len, vv := refV_inj J.v, fa' := fa', fb := J.r.fb, dl := dl,
           bb := fun p hp => ⟨hT.bytes p hp, J.r.bb p (hmem p hp)⟩, bv := ?_, x2 := ?_, a := a, b' := b', keep := keep }
  · rw [← flat_take]
    exact Sl.keep (Sl.head row hP) ((Keep.refl (fun _ => False) _).alloc _) (fun _ _ _ e => e)
  · intro u hu
    simp at hu
    rcases hu with rfl | rfl <;> rfl
  · rw [hbn]
    exact ⟨Sl.keep hbv keep (fun _ _ _ e => e), hbr⟩
  · have := lt_blk b'; omega
section
variable {w X : World} {RS : Nat → Prop} {s : OS} {L : List ((Bs × Bs) × Value)} {ra : Option Addr} {rn rc P : Nat} {q o l : Int} {fa : Option Addr} {fn fc : Nat} {nm : ByteArray} {ba : Option Addr} {bn bc : Nat} {b : Bs}
theorem TailF.src_none (T : TailF w X RS s L none 0 0 0 q o l fa fn fc nm ba bn bc b) (W : World) : Sl W 2 (.slice none 0 0) 0 ((L.drop 0).flatMap thCells) := by
  have h0 : L = [] := List.eq_nil_of_length_eq_zero T.len.symm
  rw [h0]; exact Sl.nil W 2
theorem TailF.src_end {rb ro : Nat} (T : TailF w X RS s L (some ⟨rb, ro, none⟩) rn P P q o l fa fn fc nm ba bn bc b) (W : World) : Sl W 2 (.slice (some ⟨rb, ro, none⟩) 0 0) 0 ((L.drop P).flatMap thCells) := by
  have h1 : rn ≤ P := by obtain ⟨_, a, c, e, h2, _⟩ := T.row; cases e; exact h2
  rw [List.drop_of_length_le (by rw [← T.len]; exact h1)]
  exact ⟨rfl, _, _, rfl, Nat.le_refl _, Nat.zero_le _, fun _ => rfl, fun h => absurd h (Nat.lt_irrefl _)⟩
theorem TailF.src_mid {rb ro : Nat} (T : TailF w X RS s L (some ⟨rb, ro, none⟩) rn rc P q o l fa fn fc nm ba bn bc b) (W : World) (hk : Keep (fun _ => False) X W) : Sl W 2 (.slice (some ⟨rb, ro + P * 2, none⟩) (rn - P) (rc - P)) (rn - P) ((L.drop P).flatMap thCells) := by
  rw [← flat_drop]
  exact Sl.keep (Sl.tail T.row T.le) hk (fun _ _ _ e => e)
theorem TailF.y (T : TailF w X RS s L ra rn rc P q o l fa fn fc nm ba bn bc b) : (X.alloc (.cells #[] 133)).cell? ⟨w.heap.size, 0, none⟩ = some (.slice ra rn rc) := by
  rw [cell_blk (alloc_blk T.a _)]; rfl
theorem TailF.fin (T : TailF w X RS s L ra rn rc P q o l fa fn fc nm ba bn bc b) (hok : s.Ok) (hc : s.putCode nm.data.toList b = 0) (hP : P = posK s.row nm.data.toList) (hRS : ∀ x, RS x → x < w.heap.size) {W W' : World} {g : Option Addr} {n c : Nat}
    (hown : W.ownsRow X.heap.size 133 2 (.slice g n c) n ((L.take P).flatMap thCells ++ [.string nm, .slice ba bn bc] ++ (L.drop P).flatMap thCells)) (hkX : Keep (fun _ => False) X W) (hlo : ∀ x, vblk (.slice g n c) = some x → X.heap.size ≤ x) (hk2 : Keep (· = w.heap.size + 1) (W.setCell ⟨w.heap.size, 0, none⟩ (.slice g n c)) W') :
    PutRef RS s nm.data.toList b w (.returned (.tuple #[.agg #[.slice g n c, .int .i64 q, .int .i64 o, .int .i64 l, .slice fa fn fc], .int .i64 0])) W' :=
  put_fin hok hc T.keep T.fa' T.fb T.vv T.dl T.bb T.bv (by rw [← hP, strV_data]; exact hown) hkX hlo T.x2 hRS ((((Keep.refl (fun x => x = w.heap.size ∨ x = w.heap.size + 1) W).setCell (p := ⟨w.heap.size, 0, none⟩) (fun _ => .inl rfl) _)).trans (hk2.mono (fun _ _ e => .inr e)))
end

set_option maxRecDepth 100000 in
set_option maxHeartbeats 8000000 in
theorem r6put_rest {w : World} {v : Value} {RS : Nat → Prop} {s : OS} (h : Rf w v RS s) (hRS : ∀ b, RS b → b < w.heap.size) (hl : s.left ≠ 0) (hl1 : -1 ≤ s.left ∧ s.left ≤ 9223372036854775807) (ho : s.ops < 4611686018427387904) (hok : s.Ok) (nm : ByteArray) (hnm : nm.size ≤ maxLen) (ba : Option Addr) (bc : Nat) (b : Bs)
    (hbv : BytesAt w (.slice ba b.length bc) b) (hbr : ∀ x, 0 < b.length → vblk (.slice ba b.length bc) = some x → RS x) (hc : s.code = 0) :
    Calls Try.prog 64 #[v, .string nm, .slice ba b.length bc] w (PutRef RS s nm.data.toList b w) := by
  obtain ⟨rv, fv, L, rfl, h⟩ := h
  obtain ⟨ra, rn, rc, rfl⟩ : ∃ a n c, rv = .slice a n c := let ⟨_, a, c, e, _⟩ := h.rows.row; ⟨a, _, c, e⟩
  obtain ⟨fa, fn, fc, rfl⟩ : ∃ a n c, fv = .slice a n c := let ⟨_, a, c, e, _⟩ := h.faults; ⟨a, _, c, e⟩
  have H := Lib.hid (show Rf w (refV (.slice ra rn rc) (.slice fa fn fc) s) RS s from ⟨_, _, L, rfl, h⟩)
  clear h
  have k2 : Keep (fun _ => False) w ((w.alloc (.cells #[.slice ra rn rc, .int .i64 s.quota, .int .i64 s.ops, .int .i64 s.left, .slice fa fn fc] 35)).alloc (.cells #[.slice none 0 0, .int .i64 0, .int .i64 0, .int .i64 0, .slice none 0 0] 35)) := ((Keep.refl _ _).alloc _).alloc _
  have hA : ((w.alloc (.cells #[.slice ra rn rc, .int .i64 s.quota, .int .i64 s.ops, .int .i64 s.left, .slice fa fn fc] 35)).alloc (.cells #[.slice none 0 0, .int .i64 0, .int .i64 0, .int .i64 0, .slice none 0 0] 35)).heap[w.heap.size]? = some (.cells #[.slice ra rn rc, .int .i64 s.quota, .int .i64 s.ops, .int .i64 s.left, .slice fa fn fc] 35 (0, 0)) := alloc_blk (alloc_new _ _) _
  have hB : ((w.alloc (.cells #[.slice ra rn rc, .int .i64 s.quota, .int .i64 s.ops, .int .i64 s.left, .slice fa fn fc] 35)).alloc (.cells #[.slice none 0 0, .int .i64 0, .int .i64 0, .int .i64 0, .slice none 0 0] 35)).heap[w.heap.size + 1]? = some (.cells #[.slice none 0 0, .int .i64 0, .int .i64 0, .int .i64 0, .slice none 0 0] 35 (0, 0)) := by
    have := alloc_new (w.alloc (.cells #[.slice ra rn rc, .int .i64 s.quota, .int .i64 s.ops, .int .i64 s.left, .slice fa fn fc] 35)) (.cells #[.slice none 0 0, .int .i64 0, .int .i64 0, .int .i64 0, .slice none 0 0] 35)
    rw [World.size_alloc] at this
    exact this
  have K2 := Lib.hid k2; have HA := Lib.hid hA; have HB := Lib.hid hB; have HRS := Lib.hid hRS
  clear k2 hA hB hRS
  unfold refV
  go_enter Try.func64, Try.ntmps64
  go_wp2_with fail
  refine (r6op_any (H.out.keep0 K2.out) hl hl1 ⟨hok.ops.1, ho⟩).mono ?_
  rintro e w1 ⟨v1, rfl, hR1, k1⟩
  have hA1 := k1.heap HA.out id
  have hB1 := k1.heap HB.out id
  have K1 := Lib.hid (K2.out.trans k1)
  obtain ⟨ra1, rn1, rc1, fa1, fn1, fc1, q, o, l, L1, rfl, hq, mk⟩ := rboxes_of (w := w) HRS.out hR1
  have HA1 := Lib.hid hA1; have HB1 := Lib.hid hB1; have MK := Lib.hid mk
  rw [hc]
  have HNM := Lib.hid (putCode_eq hc (nm := nm.data.toList) (b := b))
  have HQ := Lib.hid hq
  have HBV := Lib.hid hbv; have HBR := Lib.hid hbr
  have hblen : b.length ≤ 9223372036854775807 := by
    have : b.length ≤ maxLen := by obtain ⟨_, a, c, e, h2, h3, _⟩ := hbv; omega
    unfold maxLen at this
    omega
  obtain ⟨bn, hbn⟩ : ∃ n, n = b.length := ⟨_, rfl⟩
  have HBN := Lib.hid hbn
  rw [← hbn] at hblen ⊢
  clear hA1 hB1 mk hq k1 hR1 hbv hbr hbn hc
  go_wp2_with (refine wpList_store_box rfl 35 (.tmp 3) (.tmp 16) rfl w.heap.size #[.slice ra1 rn1 rc1, .int .i64 q, .int .i64 o, .int .i64 l, .slice fa1 fn1 fc1] (by rfl) (by rfl) HA1.out (by kernel_rfl) rfl (five_one _ _ _ _ _ _ _ _ _) ?_; intro W2 hA2 kA2; have J := MK.out W2 kA2 hA2 (kA2.heap HB1.out (by omega)) (K1.out.trans' kA2 (fun _ _ e => e) (fun i hi e => by omega)); obtain ⟨⟨a0, a1, a2, a3, a4⟩, af⟩ := five_cells hA2; have HJ2 := Lib.hid J; clear J hA2 kA2)
  have J2 := HJ2.out
  refine (r6right_any _ nm hnm).mono ?_
  rintro e W3 ⟨rfl, k3⟩
  have J3 := J2.still k3
  obtain ⟨⟨a0, a1, a2, a3, a4⟩, af⟩ := five_cells J3.a
  have HJ := Lib.hid J3
  clear J2 k3 HJ2
  cases hno : nameOK nm.data.toList
  · have hcode : s.putCode nm.data.toList b = 37 := by rw [HNM.out, if_pos hno]
    have hn0 : s.putCode nm.data.toList b ≠ 0 := by rw [hcode]; decide
    have HCODE := Lib.hid hcode; have HNO := Lib.hid hn0
    clear hcode hn0 J3
    go_wp2_with (refine wpList_store_box rfl 35 (.tmp 6) (.tmp 25) rfl (w.heap.size + 1) #[.slice ra1 rn1 rc1, .int .i64 q, .int .i64 o, .int .i64 l, .slice fa1 fn1 fc1] (by rfl) (by rfl) HJ.out.b (by kernel_rfl) rfl (five_one _ _ _ _ _ _ _ _ _) ?_; intro W4 hB4 kB4)
    refine bodyPost_ret (results_cell_tmp1 _ _ _ _ _ _ _ (by rfl) hB4 Try.underlying35 rfl (by kernel_rfl) rfl) rfl ?_
    exact .inl ⟨HNO.out, by rw [HCODE.out]; exact HJ.out.fin HRS.out kB4 _⟩
  · rw [hno] at HNM
    have HNM2 := HNM
    by_cases hlong : (1048576 : Int) < bn
    · have hcode : s.putCode nm.data.toList b = 2 := by rw [HNM.out, if_neg (by decide)]; unfold OS.roomCode; rw [if_pos (by rw [← HBN.out]; omega)]
      have hn0 : s.putCode nm.data.toList b ≠ 0 := by rw [hcode]; decide
      have HCODE := Lib.hid hcode; have HNO := Lib.hid hn0
      clear hcode hn0 J3
      go_wp2_with (refine wpList_store_box rfl 35 (.tmp 6) (.tmp 29) rfl (w.heap.size + 1) #[.slice ra1 rn1 rc1, .int .i64 q, .int .i64 o, .int .i64 l, .slice fa1 fn1 fc1] (by rfl) (by rfl) HJ.out.b (by kernel_rfl) rfl (five_one _ _ _ _ _ _ _ _ _) ?_; intro W4 hB4 kB4)
      refine bodyPost_ret (results_cell_tmp1 _ _ _ _ _ _ _ (by rfl) hB4 Try.underlying35 rfl (by kernel_rfl) rfl) rfl ?_
      exact .inl ⟨HNO.out, by rw [HCODE.out]; exact HJ.out.fin HRS.out kB4 _⟩
    · have hri : Rising s.row := hok.rising
      have hRf : Rf W3 (.agg #[.slice ra1 rn1 rc1, .int .i64 q, .int .i64 o, .int .i64 l, .slice fa1 fn1 fc1]) RS s.op := by rw [← J3.v]; exact ⟨_, _, _, rfl, J3.r⟩
      have HRf := Lib.hid hRf
      clear J3 hRf
      go_wp2_with fail
      refine (r6find_any HRf.out (show Rising s.op.row from hri) nm).mono ?_
      rintro e W4 ⟨rfl, k4⟩
      obtain ⟨P, hP⟩ : ∃ P, P = posK s.row nm.data.toList := ⟨_, rfl⟩
      have eP : posK s.op.row nm.data.toList = P := hP.symm
      rw [eP]
      have HP := Lib.hid hP
      clear hP eP
      obtain ⟨T, hT⟩ : ∃ T, T = (lk s.row nm.data.toList).isSome := ⟨_, rfl⟩
      have eT : (lk s.op.row nm.data.toList).isSome = T := hT.symm
      rw [eT]
      have HT := Lib.hid hT
      clear hT eT
      have hRf4 := HRf.out.keep0 k4
      have J4 := HJ.out.still k4
      obtain ⟨⟨a0, a1, a2, a3, a4⟩, af⟩ := five_cells J4.a
      have HJ4 := Lib.hid J4; have HRf4 := Lib.hid hRf4
      clear J4 hRf4 k4 HJ HRf
      have hszz : sizeR s.row ≤ 4294967296 := Nat.le_trans (sizeR_bound s.row (fun r hr => (hok.names r hr).2)) (by have := hok.many; omega)
      have hsz : (sizeR s.op.row : Int) ≤ 4294967296 := by show (sizeR s.row : Int) ≤ _; omega
      go_wp2_with fail
      refine (r6size_any HRf4.out (by omega)).mono ?_
      rintro e W5 ⟨rfl, k5⟩
      obtain ⟨Z, hZ⟩ : ∃ Z, Z = sizeR s.row := ⟨_, rfl⟩
      have eZ : sizeR s.op.row = Z := hZ.symm
      rw [eZ] at hsz ⊢
      have J5 := HJ4.out.still k5
      obtain ⟨⟨a0, a1, a2, a3, a4⟩, af⟩ := five_cells J5.a
      have hq1 := hok.size
      have hq2 := hok.quota
      have hqs : q = s.quota := HQ.out
      rw [← hZ] at hq1
      rw [← hqs] at hq1 hq2
      have hmany := hok.many
      have hrn : rn1 = s.row.length := by rw [J5.n, ← show L1.map (·.1) = s.row from J5.r.is, List.length_map]
      rw [← hrn] at hmany
      have hroom : s.roomCode nm.data.toList b = if (bn : Int) > q - Z + ((lk s.row nm.data.toList).getD []).length then 31 else if (lk s.row nm.data.toList).isNone ∧ rn1 = 4096 then 3 else 0 := by
        unfold OS.roomCode
        rw [if_neg (by rw [← HBN.out]; omega), ← HBN.out, ← hZ, ← hqs, ← hrn]
      have hcd : s.putCode nm.data.toList b = s.roomCode nm.data.toList b := by rw [HNM.out, if_neg (by decide)]
      rw [hroom] at hcd
      have HCD := Lib.hid hcd; have HZ := Lib.hid hZ; have HRN := Lib.hid hrn; have HRI := Lib.hid hri; have HJ5 := Lib.hid J5; have HQS := Lib.hid hqs
      have hbl2 : (bn : Int) ≤ 1048576 := by omega
      clear hszz hroom hcd hZ hrn eZ k5 HRf4 HJ4 J5 hqs hri HNM HNM2 HQ
      cases hlk : lk s.row nm.data.toList with
      | none =>
        rw [hlk] at HCD HT
        simp only [Option.getD_none, Option.isSome_none, Option.isNone_none] at HCD HT
        obtain rfl : T = false := HT.out
        by_cases hroom : q < Z + bn
        · have hcode : s.putCode nm.data.toList b = 31 := by rw [HCD.out]; rw [if_pos (by simp; omega)]
          have hn0 : s.putCode nm.data.toList b ≠ 0 := by rw [hcode]; decide
          have HCODE := Lib.hid hcode; have HNO := Lib.hid hn0
          clear hcode hn0 hlk
          go_wp2_with (refine wpList_store_box rfl 35 (.tmp 6) (.tmp 55) rfl (w.heap.size + 1) #[.slice ra1 rn1 rc1, .int .i64 q, .int .i64 o, .int .i64 l, .slice fa1 fn1 fc1] (by rfl) (by rfl) HJ5.out.b (by kernel_rfl) rfl (five_one _ _ _ _ _ _ _ _ _) ?_; intro W6 hB6 kB6)
          refine bodyPost_ret (results_cell_tmp1 _ _ _ _ _ _ _ (by rfl) hB6 Try.underlying35 rfl (by kernel_rfl) rfl) rfl ?_
          exact .inl ⟨HNO.out, by rw [HCODE.out]; exact HJ5.out.fin HRS.out kB6 _⟩
        · by_cases hfull : (4096 : Int) ≤ rn1
          · have hcode : s.putCode nm.data.toList b = 3 := by rw [HCD.out]; rw [if_neg (by simp; omega), if_pos (by simp; omega)]
            have hn0 : s.putCode nm.data.toList b ≠ 0 := by rw [hcode]; decide
            have HCODE := Lib.hid hcode; have HNO := Lib.hid hn0
            clear hcode hn0 hlk
            go_wp2_with (refine wpList_store_box rfl 35 (.tmp 6) (.tmp 64) rfl (w.heap.size + 1) #[.slice ra1 rn1 rc1, .int .i64 q, .int .i64 o, .int .i64 l, .slice fa1 fn1 fc1] (by rfl) (by rfl) HJ5.out.b (by kernel_rfl) rfl (five_one _ _ _ _ _ _ _ _ _) ?_; intro W6 hB6 kB6)
            refine bodyPost_ret (results_cell_tmp1 _ _ _ _ _ _ _ (by rfl) hB6 Try.underlying35 rfl (by kernel_rfl) rfl) rfl ?_
            exact .inl ⟨HNO.out, by rw [HCODE.out]; exact HJ5.out.fin HRS.out kB6 _⟩
          · have hcode : s.putCode nm.data.toList b = 0 := by rw [HCD.out]; rw [if_neg (by simp; omega), if_neg (by simp; omega)]
            have HCODE := Lib.hid hcode
            have hdl : L1.map (·.1) = delK nm.data.toList s.row := by rw [show L1.map (·.1) = s.row from HJ5.out.r.is]; exact (delK_none hlk).symm
            obtain ⟨X, hX⟩ : ∃ X, X = W5 := ⟨_, rfl⟩
            subst hX
            obtain ⟨i0, hi, hz0, hz1, hz2⟩ := info_parts info_thing
            have hP4 : P ≤ rn1 := by rw [HP.out, HRN.out]; exact posK_le _ _
            have T0 := tail_facts (P := P) (nm := nm) HJ5.out HJ5.out.a HJ5.out.b HJ5.out.keep HJ5.out.r.rows HJ5.out.r.faults hP4 hmany HJ5.out.n hdl (fun p hp => hp) HBN.out HBV.out HBR.out
            have cY := T0.y
            have hrc : rn1 ≤ rc1 ∧ rc1 ≤ maxLen := by obtain ⟨_, a, c, e, h2, h3, _⟩ := T0.row; cases e; exact ⟨h2, h3⟩
            unfold maxLen at hrc
            obtain ⟨hr1, hr2⟩ := hrc
            have HSH := Lib.hid HJ5.out.r.sh
            have TF := Lib.hid T0
            clear hcode hdl hlk T0
            rcases HSH.out with hsh | ⟨rb, ro, n', c', hsh⟩
            · cases hsh
              obtain rfl : P = 0 := by omega
              go_wp2_with (first | (at_builtin; refine wpList_append_sl rfl (.tmp 69) (.tmp 73) 33 rfl X.heap.size 133 i0 _ 2 40 Try.underlying33 hi hz0 hz1 hz2 rfl (by decide) (.slice (some ⟨X.heap.size, 0, none⟩) 0 0) 0 [] rfl TF.out.own0 _ 0 ((L1.take 0).flatMap thCells) rfl TF.out.src0 TF.out.one0 TF.out.n1 TF.out.n2 TF.out.n3 ?_; intro v1 Y1 hown1 hk1 hb1; rw [Nat.zero_add, List.nil_append] at hown1; obtain ⟨g1, c1, e1, O1, KX1, B1, Z1⟩ := own_next ((Keep.refl _ _).alloc _) TF.out.h00 hown1 hk1 hb1; subst e1; clear hown1 hk1 hb1) | (at_builtin; refine wpList_append_sl rfl (.tmp 75) (.tmp 79) 33 rfl X.heap.size 133 i0 _ 2 40 Try.underlying33 hi hz0 hz1 hz2 rfl (by decide) (.slice g1 0 c1) 0 ((L1.take 0).flatMap thCells) rfl (O1.out.alloc _) _ 1 [.string nm, .slice ba bn bc] rfl (sl_made Y1 2 1 #[.string nm, .slice ba bn bc] 133 rfl (by decide)) TF.out.one1 TF.out.n4 TF.out.n5 (Nat.le_trans Z1 ((Keep.refl (fun _ => False) Y1).alloc (.cells #[.string nm, .slice ba bn bc] 133)).size) ?_; intro v2 Y2 hown2 hk2 hb2; obtain ⟨g2, c2, e2, O2, KX2, B2, Z2⟩ := own_next (KX1.out.alloc _) B1.out hown2 hk2 hb2; subst e2; have y0 := (five_cells (KX2.out.heap TF.out.a id)).1.1; clear hown2 hk2 hb2) | (at_builtin; refine wpList_append_sl rfl (.tmp 81) (.tmp 85) 33 rfl X.heap.size 133 i0 _ 2 40 Try.underlying33 hi hz0 hz1 hz2 rfl (by decide) (.slice g2 (0 + 1) c2) (0 + 1) ((L1.take 0).flatMap thCells ++ [.string nm, .slice ba bn bc]) rfl O2.out _ 0 ((L1.drop 0).flatMap thCells) rfl (TF.out.src_none _) TF.out.one3 TF.out.n6 TF.out.n7 Z2 ?_; intro v3 Y3 hown3 hk3 hb3; obtain ⟨g3, c3, e3, O3, KX3, B3, Z3⟩ := own_next KX2.out B2.out hown3 hk3 hb3; subst e3; clear y0; obtain ⟨⟨y0, y1, y2, y3, y4⟩, yf⟩ := five_cells (KX3.out.heap TF.out.a id); have yf0 := yf 0; clear hown3 hk3 hb3) | (refine wpList_store_box rfl 35 (.tmp 6) (.tmp 88) rfl (w.heap.size + 1) #[.slice g3 (0 + 1 + 0) c3, .int .i64 q, .int .i64 o, .int .i64 l, .slice fa1 fn1 fc1] (by rfl) (by rfl) (set_other (KX3.out.heap TF.out.b' id) (p := ⟨w.heap.size, 0, none⟩) (by simp) (.slice g3 (0 + 1 + 0) c3)) (by kernel_rfl) rfl (five_one _ _ _ _ _ _ _ _ _) ?_; intro W9 hB9 kB9))
              refine bodyPost_ret (results_cell_tmp1 _ _ _ _ _ _ _ (by rfl) hB9 Try.underlying35 rfl (by kernel_rfl) rfl) rfl ?_
              exact TF.out.fin hok HCODE.out HP.out HRS.out O3.out KX3.out B3.out kB9
            · cases hsh
              by_cases hce : rc1 = P
              · subst hce
                have i1 : (0 : Int) ≤ rc1 := by omega
                have i2 : (rc1 : Int) ≤ rn1 := by omega
                go_wp2_with (first | (at_builtin; refine wpList_append_sl rfl (.tmp 69) (.tmp 73) 33 rfl X.heap.size 133 i0 _ 2 40 Try.underlying33 hi hz0 hz1 hz2 rfl (by decide) (.slice (some ⟨X.heap.size, 0, none⟩) 0 0) 0 [] rfl TF.out.own0 _ rc1 ((L1.take rc1).flatMap thCells) rfl TF.out.src0 TF.out.one0 TF.out.n1 TF.out.n2 TF.out.n3 ?_; intro v1 Y1 hown1 hk1 hb1; rw [Nat.zero_add, List.nil_append] at hown1; obtain ⟨g1, c1, e1, O1, KX1, B1, Z1⟩ := own_next ((Keep.refl _ _).alloc _) TF.out.h00 hown1 hk1 hb1; subst e1; clear hown1 hk1 hb1) | (at_builtin; refine wpList_append_sl rfl (.tmp 75) (.tmp 79) 33 rfl X.heap.size 133 i0 _ 2 40 Try.underlying33 hi hz0 hz1 hz2 rfl (by decide) (.slice g1 rc1 c1) rc1 ((L1.take rc1).flatMap thCells) rfl (O1.out.alloc _) _ 1 [.string nm, .slice ba bn bc] rfl (sl_made Y1 2 1 #[.string nm, .slice ba bn bc] 133 rfl (by decide)) TF.out.one1 TF.out.n4 TF.out.n5 (Nat.le_trans Z1 ((Keep.refl (fun _ => False) Y1).alloc (.cells #[.string nm, .slice ba bn bc] 133)).size) ?_; intro v2 Y2 hown2 hk2 hb2; obtain ⟨g2, c2, e2, O2, KX2, B2, Z2⟩ := own_next (KX1.out.alloc _) B1.out hown2 hk2 hb2; subst e2; have y0 := (five_cells (KX2.out.heap TF.out.a id)).1.1; clear hown2 hk2 hb2) | (at_builtin; refine wpList_append_sl rfl (.tmp 81) (.tmp 85) 33 rfl X.heap.size 133 i0 _ 2 40 Try.underlying33 hi hz0 hz1 hz2 rfl (by decide) (.slice g2 (rc1 + 1) c2) (rc1 + 1) ((L1.take rc1).flatMap thCells ++ [.string nm, .slice ba bn bc]) rfl O2.out _ 0 ((L1.drop rc1).flatMap thCells) rfl (TF.out.src_end _) TF.out.one3 TF.out.n4 TF.out.n5 Z2 ?_; intro v3 Y3 hown3 hk3 hb3; obtain ⟨g3, c3, e3, O3, KX3, B3, Z3⟩ := own_next KX2.out B2.out hown3 hk3 hb3; subst e3; clear y0; obtain ⟨⟨y0, y1, y2, y3, y4⟩, yf⟩ := five_cells (KX3.out.heap TF.out.a id); have yf0 := yf 0; clear hown3 hk3 hb3) | (refine wpList_store_box rfl 35 (.tmp 6) (.tmp 88) rfl (w.heap.size + 1) #[.slice g3 (rc1 + 1 + 0) c3, .int .i64 q, .int .i64 o, .int .i64 l, .slice fa1 fn1 fc1] (by rfl) (by rfl) (set_other (KX3.out.heap TF.out.b' id) (p := ⟨w.heap.size, 0, none⟩) (by simp) (.slice g3 (rc1 + 1 + 0) c3)) (by kernel_rfl) rfl (five_one _ _ _ _ _ _ _ _ _) ?_; intro W9 hB9 kB9))
                refine bodyPost_ret (results_cell_tmp1 _ _ _ _ _ _ _ (by rfl) hB9 Try.underlying35 rfl (by kernel_rfl) rfl) rfl ?_
                exact TF.out.fin hok HCODE.out HP.out HRS.out O3.out KX3.out B3.out kB9
              · have i1 : (0 : Int) ≤ P := by omega
                have i2 : (P : Int) ≤ rn1 := by omega
                have i3 : (P : Int) ≤ rc1 := by omega
                go_wp2_with (first | (at_builtin; refine wpList_append_sl rfl (.tmp 69) (.tmp 73) 33 rfl X.heap.size 133 i0 _ 2 40 Try.underlying33 hi hz0 hz1 hz2 rfl (by decide) (.slice (some ⟨X.heap.size, 0, none⟩) 0 0) 0 [] rfl TF.out.own0 _ P ((L1.take P).flatMap thCells) rfl TF.out.src0 TF.out.one0 TF.out.n1 TF.out.n2 TF.out.n3 ?_; intro v1 Y1 hown1 hk1 hb1; rw [Nat.zero_add, List.nil_append] at hown1; obtain ⟨g1, c1, e1, O1, KX1, B1, Z1⟩ := own_next ((Keep.refl _ _).alloc _) TF.out.h00 hown1 hk1 hb1; subst e1; clear hown1 hk1 hb1) | (at_builtin; refine wpList_append_sl rfl (.tmp 75) (.tmp 79) 33 rfl X.heap.size 133 i0 _ 2 40 Try.underlying33 hi hz0 hz1 hz2 rfl (by decide) (.slice g1 P c1) P ((L1.take P).flatMap thCells) rfl (O1.out.alloc _) _ 1 [.string nm, .slice ba bn bc] rfl (sl_made Y1 2 1 #[.string nm, .slice ba bn bc] 133 rfl (by decide)) TF.out.one1 TF.out.n4 TF.out.n5 (Nat.le_trans Z1 ((Keep.refl (fun _ => False) Y1).alloc (.cells #[.string nm, .slice ba bn bc] 133)).size) ?_; intro v2 Y2 hown2 hk2 hb2; obtain ⟨g2, c2, e2, O2, KX2, B2, Z2⟩ := own_next (KX1.out.alloc _) B1.out hown2 hk2 hb2; subst e2; have y0 := (five_cells (KX2.out.heap TF.out.a id)).1.1; clear hown2 hk2 hb2) | (at_builtin; refine wpList_append_sl rfl (.tmp 81) (.tmp 85) 33 rfl X.heap.size 133 i0 _ 2 40 Try.underlying33 hi hz0 hz1 hz2 rfl (by decide) (.slice g2 (P + 1) c2) (P + 1) ((L1.take P).flatMap thCells ++ [.string nm, .slice ba bn bc]) rfl O2.out _ (rn1 - P) ((L1.drop P).flatMap thCells) rfl (TF.out.src_mid _ KX2.out) TF.out.one3 TF.out.n6 TF.out.n7 Z2 ?_; intro v3 Y3 hown3 hk3 hb3; obtain ⟨g3, c3, e3, O3, KX3, B3, Z3⟩ := own_next KX2.out B2.out hown3 hk3 hb3; subst e3; clear y0; obtain ⟨⟨y0, y1, y2, y3, y4⟩, yf⟩ := five_cells (KX3.out.heap TF.out.a id); have yf0 := yf 0; clear hown3 hk3 hb3) | (refine wpList_store_box rfl 35 (.tmp 6) (.tmp 88) rfl (w.heap.size + 1) #[.slice g3 (P + 1 + (rn1 - P)) c3, .int .i64 q, .int .i64 o, .int .i64 l, .slice fa1 fn1 fc1] (by rfl) (by rfl) (set_other (KX3.out.heap TF.out.b' id) (p := ⟨w.heap.size, 0, none⟩) (by simp) (.slice g3 (P + 1 + (rn1 - P)) c3)) (by kernel_rfl) rfl (five_one _ _ _ _ _ _ _ _ _) ?_; intro W9 hB9 kB9))
                refine bodyPost_ret (results_cell_tmp1 _ _ _ _ _ _ _ (by rfl) hB9 Try.underlying35 rfl (by kernel_rfl) rfl) rfl ?_
                exact TF.out.fin hok HCODE.out HP.out HRS.out O3.out KX3.out B3.out kB9
      | some l0 =>
        rw [hlk] at HCD HT
        simp only [Option.getD_some, Option.isSome_some, Option.isNone_some] at HCD HT
        obtain rfl : T = true := HT.out
        have hpos := posK_some HRI.out hlk
        rw [← HP.out] at hpos
        obtain ⟨p, hp, hp1⟩ : ∃ p, L1[P]? = some p ∧ p.1 = (nm.data.toList, l0) := by
          have h1 : (L1.map (·.1))[P]? = some (nm.data.toList, l0) := by rw [show L1.map (·.1) = s.row from HJ5.out.r.is]; exact hpos
          rw [List.getElem?_map] at h1
          cases h : L1[P]? with
          | none => rw [h] at h1; cases h1
          | some p => rw [h] at h1; exact ⟨p, rfl, by simpa using h1⟩
        have hPlt : P < rn1 := by rw [HJ5.out.n]; exact (List.getElem?_eq_some_iff.1 hp).1
        have hle := lk_le s.row nm.data.toList
        rw [hlk, ← HZ.out] at hle
        simp only [Option.getD_some] at hle
        have hrr : Sl W5 2 (.slice ra1 rn1 rc1) rn1 (L1.flatMap thCells) := by have := HJ5.out.r.rows.row; rw [← HJ5.out.n] at this; exact this
        obtain ⟨rb, ro, rc', ev, r1, r2⟩ := Sl.base hrr (by omega)
        cases ev
        obtain ⟨_, t1⟩ := HJ5.out.r.rows.cells hp
        obtain ⟨_, la, lc, el, _⟩ := HJ5.out.r.rows.bytes p (List.mem_of_getElem? hp)
        rw [el, hp1] at t1
        dsimp only at t1
        have i1 : (0 : Int) ≤ P := by omega
        have i2 : (P : Int) < rn1 := by omega
        unfold maxLen at r2
        obtain ⟨ln, hln⟩ : ∃ ln, ln = l0.length := ⟨_, rfl⟩
        have hln2 : ln ≤ Z := by omega
        rw [← hln] at t1 HCD
        by_cases hroom : q < Z + bn - ln
        · have hcode : s.putCode nm.data.toList b = 31 := by rw [HCD.out]; rw [if_pos (by omega)]
          have hn0 : s.putCode nm.data.toList b ≠ 0 := by rw [hcode]; decide
          have HCODE := Lib.hid hcode; have HNO := Lib.hid hn0
          clear hcode hn0 hlk hpos hp hp1 hle hrr hln el
          go_wp2_with (refine wpList_store_box rfl 35 (.tmp 6) (.tmp 55) rfl (w.heap.size + 1) #[.slice (some ⟨rb, ro, none⟩) rn1 rc1, .int .i64 q, .int .i64 o, .int .i64 l, .slice fa1 fn1 fc1] (by rfl) (by rfl) HJ5.out.b (by kernel_rfl) rfl (five_one _ _ _ _ _ _ _ _ _) ?_; intro W6 hB6 kB6)
          refine bodyPost_ret (results_cell_tmp1 _ _ _ _ _ _ _ (by rfl) hB6 Try.underlying35 rfl (by kernel_rfl) rfl) rfl ?_
          exact .inl ⟨HNO.out, by rw [HCODE.out]; exact HJ5.out.fin HRS.out kB6 _⟩
        · have hcode : s.putCode nm.data.toList b = 0 := by rw [HCD.out]; rw [if_neg (by omega), if_neg (by simp)]
          have HCODE := Lib.hid hcode
          have HW := r6without_any HJ5.out.r P (by rw [← HJ5.out.n]; exact hPlt) (by rw [← HJ5.out.n]; exact hmany)
          rw [HJ5.out.v] at HW
          have hdl : (L1.take P ++ L1.drop (P + 1)).map (·.1) = delK nm.data.toList s.row := by
            rw [List.map_append, List.map_take, List.map_drop, show L1.map (·.1) = s.row from HJ5.out.r.is, HP.out]
            exact eraseIdx_pos HRI.out hlk
          have HDL := Lib.hid hdl; have HWW := Lib.hid HW
          clear hcode hdl hlk hpos hp hp1 hle hrr hln el HW
          go_wp2_with fail
          refine HWW.out.mono ?_
          rintro e W6 ⟨rv6, rfl, hsh6, hT6, hb6, k6⟩
          obtain ⟨g6, n6, c6, rfl⟩ : ∃ a n c, rv6 = .slice a n c := let ⟨_, a, c, e, _⟩ := hT6.row; ⟨a, _, c, e⟩
          have hn6 : n6 = (L1.take P ++ L1.drop (P + 1)).length := by obtain ⟨_, a, c, e, _⟩ := hT6.row; cases e; rfl
          have hn6' : n6 + 1 = rn1 := by
            rw [hn6, List.length_append, List.length_take, List.length_drop, ← HJ5.out.n]; omega
          have ev6 : refV (.slice g6 n6 c6) (.slice fa1 fn1 fc1) s.op = .agg #[.slice g6 n6 c6, .int .i64 q, .int .i64 o, .int .i64 l, .slice fa1 fn1 fc1] := by
            obtain ⟨h1, h2, h3⟩ := refV_inj HJ5.out.v
            unfold refV; rw [h1, h2, h3]
          rw [ev6]
          have J6 := HJ5.out.still k6
          obtain ⟨i0, hi, hz0, hz1, hz2⟩ := info_parts info_thing
          have mkT : ∀ X : World, X.heap[w.heap.size]? = some (.cells #[.slice g6 n6 c6, .int .i64 q, .int .i64 o, .int .i64 l, .slice fa1 fn1 fc1] 35 (0, 0)) → Keep (· = w.heap.size) W6 X → TailF w X RS s (L1.take P ++ L1.drop (P + 1)) g6 n6 c6 P q o l fa1 fn1 fc1 nm ba bn bc b := by
            intro X hA hk
            have hmem : ∀ p ∈ L1.take P ++ L1.drop (P + 1), p ∈ L1 := fun p hp => (List.mem_append.1 hp).elim List.mem_of_mem_take List.mem_of_mem_drop
            have hkX : Keep (fun _ => False) w X := J6.keep.trans' hk (fun _ _ e => e) (fun i hi e => by omega)
            refine tail_facts J6 hA (hk.heap J6.b (by omega)) hkX ⟨Sl.keep hT6.row hk (fun x _ e h => by have := hb6 x e; have := HJ5.out.keep.size; have := lt_blk HJ5.out.b; omega), fun p hp => Sl.keep (hT6.bytes p hp) hk (fun x hn e h => by have := HRS.out x (HJ5.out.r.bb p (hmem p hp) x hn e); omega)⟩
              (Sl.keep J6.r.faults hk (fun x hn e h => by have := HRS.out x (HJ5.out.r.fb x hn e); omega)) (by omega) (by omega) hn6 HDL.out hmem HBN.out HBV.out HBR.out
          have hrc : n6 ≤ c6 ∧ c6 ≤ maxLen := by obtain ⟨_, a, c, e, h2, h3, _⟩ := hT6.row; cases e; rw [hn6]; exact ⟨h2, h3⟩
          unfold maxLen at hrc
          obtain ⟨hr1, hr2⟩ := hrc
          obtain ⟨L6, hL6⟩ : ∃ L6, L6 = L1.take P ++ L1.drop (P + 1) := ⟨_, rfl⟩
          rw [← hL6] at mkT
          have HA6 := Lib.hid J6.a; have HSH6 := Lib.hid hsh6; have MKT := Lib.hid mkT
          have hP6 : P ≤ n6 := by omega
          have h46 : n6 ≤ 4096 := by omega
          clear hn6' hT6 hb6 k6 ev6 J6 hn6 mkT hsh6 t1 a0 a1 a2 a3 a4 af hL6
          rcases HSH6.out with hsh | ⟨rb, ro, n', c', hsh⟩
          · cases hsh
            obtain rfl : P = 0 := by omega
            go_wp2_with (first | (refine wpList_store_box rfl 35 (.tmp 3) (.tmp 68) rfl w.heap.size #[.slice none 0 0, .int .i64 q, .int .i64 o, .int .i64 l, .slice fa1 fn1 fc1] (by rfl) (by rfl) HA6.out (by kernel_rfl) rfl (five_one _ _ _ _ _ _ _ _ _) ?_; intro X hAX kAX; have T0 := MKT.out X hAX kAX; have cY := T0.y; have cX := (five_cells T0.a).1.1; have TF := Lib.hid T0; clear T0 hAX kAX) | (at_builtin; refine wpList_append_sl rfl (.tmp 69) (.tmp 73) 33 rfl X.heap.size 133 i0 _ 2 40 Try.underlying33 hi hz0 hz1 hz2 rfl (by decide) (.slice (some ⟨X.heap.size, 0, none⟩) 0 0) 0 [] rfl TF.out.own0 _ 0 ((L6.take 0).flatMap thCells) rfl TF.out.src0 TF.out.one0 TF.out.n1 TF.out.n2 TF.out.n3 ?_; intro v1 Y1 hown1 hk1 hb1; rw [Nat.zero_add, List.nil_append] at hown1; obtain ⟨g1, c1, e1, O1, KX1, B1, Z1⟩ := own_next ((Keep.refl _ _).alloc _) TF.out.h00 hown1 hk1 hb1; subst e1; clear hown1 hk1 hb1) | (at_builtin; refine wpList_append_sl rfl (.tmp 75) (.tmp 79) 33 rfl X.heap.size 133 i0 _ 2 40 Try.underlying33 hi hz0 hz1 hz2 rfl (by decide) (.slice g1 0 c1) 0 ((L6.take 0).flatMap thCells) rfl (O1.out.alloc _) _ 1 [.string nm, .slice ba bn bc] rfl (sl_made Y1 2 1 #[.string nm, .slice ba bn bc] 133 rfl (by decide)) TF.out.one1 TF.out.n4 TF.out.n5 (Nat.le_trans Z1 ((Keep.refl (fun _ => False) Y1).alloc (.cells #[.string nm, .slice ba bn bc] 133)).size) ?_; intro v2 Y2 hown2 hk2 hb2; obtain ⟨g2, c2, e2, O2, KX2, B2, Z2⟩ := own_next (KX1.out.alloc _) B1.out hown2 hk2 hb2; subst e2; have y0 := (five_cells (KX2.out.heap TF.out.a id)).1.1; clear hown2 hk2 hb2) | (at_builtin; refine wpList_append_sl rfl (.tmp 81) (.tmp 85) 33 rfl X.heap.size 133 i0 _ 2 40 Try.underlying33 hi hz0 hz1 hz2 rfl (by decide) (.slice g2 (0 + 1) c2) (0 + 1) ((L6.take 0).flatMap thCells ++ [.string nm, .slice ba bn bc]) rfl O2.out _ 0 ((L6.drop 0).flatMap thCells) rfl (TF.out.src_none _) TF.out.one3 TF.out.n6 TF.out.n7 Z2 ?_; intro v3 Y3 hown3 hk3 hb3; obtain ⟨g3, c3, e3, O3, KX3, B3, Z3⟩ := own_next KX2.out B2.out hown3 hk3 hb3; subst e3; clear y0; obtain ⟨⟨y0, y1, y2, y3, y4⟩, yf⟩ := five_cells (KX3.out.heap TF.out.a id); have yf0 := yf 0; clear hown3 hk3 hb3) | (refine wpList_store_box rfl 35 (.tmp 6) (.tmp 88) rfl (w.heap.size + 1) #[.slice g3 (0 + 1 + 0) c3, .int .i64 q, .int .i64 o, .int .i64 l, .slice fa1 fn1 fc1] (by rfl) (by rfl) (set_other (KX3.out.heap TF.out.b' id) (p := ⟨w.heap.size, 0, none⟩) (by simp) (.slice g3 (0 + 1 + 0) c3)) (by kernel_rfl) rfl (five_one _ _ _ _ _ _ _ _ _) ?_; intro W9 hB9 kB9))
            refine bodyPost_ret (results_cell_tmp1 _ _ _ _ _ _ _ (by rfl) hB9 Try.underlying35 rfl (by kernel_rfl) rfl) rfl ?_
            exact TF.out.fin hok HCODE.out HP.out HRS.out O3.out KX3.out B3.out kB9
          · cases hsh
            by_cases hce : c6 = P
            · subst hce
              have i1 : (0 : Int) ≤ c6 := by omega
              have i2 : (c6 : Int) ≤ n6 := by omega
              go_wp2_with (first | (refine wpList_store_box rfl 35 (.tmp 3) (.tmp 68) rfl w.heap.size #[.slice (some ⟨rb, ro, none⟩) n6 c6, .int .i64 q, .int .i64 o, .int .i64 l, .slice fa1 fn1 fc1] (by rfl) (by rfl) HA6.out (by kernel_rfl) rfl (five_one _ _ _ _ _ _ _ _ _) ?_; intro X hAX kAX; have T0 := MKT.out X hAX kAX; have cY := T0.y; have cX := (five_cells T0.a).1.1; have TF := Lib.hid T0; clear T0 hAX kAX) | (at_builtin; refine wpList_append_sl rfl (.tmp 69) (.tmp 73) 33 rfl X.heap.size 133 i0 _ 2 40 Try.underlying33 hi hz0 hz1 hz2 rfl (by decide) (.slice (some ⟨X.heap.size, 0, none⟩) 0 0) 0 [] rfl TF.out.own0 _ c6 ((L6.take c6).flatMap thCells) rfl TF.out.src0 TF.out.one0 TF.out.n1 TF.out.n2 TF.out.n3 ?_; intro v1 Y1 hown1 hk1 hb1; rw [Nat.zero_add, List.nil_append] at hown1; obtain ⟨g1, c1, e1, O1, KX1, B1, Z1⟩ := own_next ((Keep.refl _ _).alloc _) TF.out.h00 hown1 hk1 hb1; subst e1; clear hown1 hk1 hb1) | (at_builtin; refine wpList_append_sl rfl (.tmp 75) (.tmp 79) 33 rfl X.heap.size 133 i0 _ 2 40 Try.underlying33 hi hz0 hz1 hz2 rfl (by decide) (.slice g1 c6 c1) c6 ((L6.take c6).flatMap thCells) rfl (O1.out.alloc _) _ 1 [.string nm, .slice ba bn bc] rfl (sl_made Y1 2 1 #[.string nm, .slice ba bn bc] 133 rfl (by decide)) TF.out.one1 TF.out.n4 TF.out.n5 (Nat.le_trans Z1 ((Keep.refl (fun _ => False) Y1).alloc (.cells #[.string nm, .slice ba bn bc] 133)).size) ?_; intro v2 Y2 hown2 hk2 hb2; obtain ⟨g2, c2, e2, O2, KX2, B2, Z2⟩ := own_next (KX1.out.alloc _) B1.out hown2 hk2 hb2; subst e2; have y0 := (five_cells (KX2.out.heap TF.out.a id)).1.1; clear hown2 hk2 hb2) | (at_builtin; refine wpList_append_sl rfl (.tmp 81) (.tmp 85) 33 rfl X.heap.size 133 i0 _ 2 40 Try.underlying33 hi hz0 hz1 hz2 rfl (by decide) (.slice g2 (c6 + 1) c2) (c6 + 1) ((L6.take c6).flatMap thCells ++ [.string nm, .slice ba bn bc]) rfl O2.out _ 0 ((L6.drop c6).flatMap thCells) rfl (TF.out.src_end _) TF.out.one3 TF.out.n4 TF.out.n5 Z2 ?_; intro v3 Y3 hown3 hk3 hb3; obtain ⟨g3, c3, e3, O3, KX3, B3, Z3⟩ := own_next KX2.out B2.out hown3 hk3 hb3; subst e3; clear y0; obtain ⟨⟨y0, y1, y2, y3, y4⟩, yf⟩ := five_cells (KX3.out.heap TF.out.a id); have yf0 := yf 0; clear hown3 hk3 hb3) | (refine wpList_store_box rfl 35 (.tmp 6) (.tmp 88) rfl (w.heap.size + 1) #[.slice g3 (c6 + 1 + 0) c3, .int .i64 q, .int .i64 o, .int .i64 l, .slice fa1 fn1 fc1] (by rfl) (by rfl) (set_other (KX3.out.heap TF.out.b' id) (p := ⟨w.heap.size, 0, none⟩) (by simp) (.slice g3 (c6 + 1 + 0) c3)) (by kernel_rfl) rfl (five_one _ _ _ _ _ _ _ _ _) ?_; intro W9 hB9 kB9))
              refine bodyPost_ret (results_cell_tmp1 _ _ _ _ _ _ _ (by rfl) hB9 Try.underlying35 rfl (by kernel_rfl) rfl) rfl ?_
              exact TF.out.fin hok HCODE.out HP.out HRS.out O3.out KX3.out B3.out kB9
            · have i1 : (0 : Int) ≤ P := by omega
              have i2 : (P : Int) ≤ n6 := by omega
              have i3 : (P : Int) ≤ c6 := by omega
              go_wp2_with (first | (refine wpList_store_box rfl 35 (.tmp 3) (.tmp 68) rfl w.heap.size #[.slice (some ⟨rb, ro, none⟩) n6 c6, .int .i64 q, .int .i64 o, .int .i64 l, .slice fa1 fn1 fc1] (by rfl) (by rfl) HA6.out (by kernel_rfl) rfl (five_one _ _ _ _ _ _ _ _ _) ?_; intro X hAX kAX; have T0 := MKT.out X hAX kAX; have cY := T0.y; have cX := (five_cells T0.a).1.1; have TF := Lib.hid T0; clear T0 hAX kAX) | (at_builtin; refine wpList_append_sl rfl (.tmp 69) (.tmp 73) 33 rfl X.heap.size 133 i0 _ 2 40 Try.underlying33 hi hz0 hz1 hz2 rfl (by decide) (.slice (some ⟨X.heap.size, 0, none⟩) 0 0) 0 [] rfl TF.out.own0 _ P ((L6.take P).flatMap thCells) rfl TF.out.src0 TF.out.one0 TF.out.n1 TF.out.n2 TF.out.n3 ?_; intro v1 Y1 hown1 hk1 hb1; rw [Nat.zero_add, List.nil_append] at hown1; obtain ⟨g1, c1, e1, O1, KX1, B1, Z1⟩ := own_next ((Keep.refl _ _).alloc _) TF.out.h00 hown1 hk1 hb1; subst e1; clear hown1 hk1 hb1) | (at_builtin; refine wpList_append_sl rfl (.tmp 75) (.tmp 79) 33 rfl X.heap.size 133 i0 _ 2 40 Try.underlying33 hi hz0 hz1 hz2 rfl (by decide) (.slice g1 P c1) P ((L6.take P).flatMap thCells) rfl (O1.out.alloc _) _ 1 [.string nm, .slice ba bn bc] rfl (sl_made Y1 2 1 #[.string nm, .slice ba bn bc] 133 rfl (by decide)) TF.out.one1 TF.out.n4 TF.out.n5 (Nat.le_trans Z1 ((Keep.refl (fun _ => False) Y1).alloc (.cells #[.string nm, .slice ba bn bc] 133)).size) ?_; intro v2 Y2 hown2 hk2 hb2; obtain ⟨g2, c2, e2, O2, KX2, B2, Z2⟩ := own_next (KX1.out.alloc _) B1.out hown2 hk2 hb2; subst e2; have y0 := (five_cells (KX2.out.heap TF.out.a id)).1.1; clear hown2 hk2 hb2) | (at_builtin; refine wpList_append_sl rfl (.tmp 81) (.tmp 85) 33 rfl X.heap.size 133 i0 _ 2 40 Try.underlying33 hi hz0 hz1 hz2 rfl (by decide) (.slice g2 (P + 1) c2) (P + 1) ((L6.take P).flatMap thCells ++ [.string nm, .slice ba bn bc]) rfl O2.out _ (n6 - P) ((L6.drop P).flatMap thCells) rfl (TF.out.src_mid _ KX2.out) TF.out.one3 TF.out.n6 TF.out.n7 Z2 ?_; intro v3 Y3 hown3 hk3 hb3; obtain ⟨g3, c3, e3, O3, KX3, B3, Z3⟩ := own_next KX2.out B2.out hown3 hk3 hb3; subst e3; clear y0; obtain ⟨⟨y0, y1, y2, y3, y4⟩, yf⟩ := five_cells (KX3.out.heap TF.out.a id); have yf0 := yf 0; clear hown3 hk3 hb3) | (refine wpList_store_box rfl 35 (.tmp 6) (.tmp 88) rfl (w.heap.size + 1) #[.slice g3 (P + 1 + (n6 - P)) c3, .int .i64 q, .int .i64 o, .int .i64 l, .slice fa1 fn1 fc1] (by rfl) (by rfl) (set_other (KX3.out.heap TF.out.b' id) (p := ⟨w.heap.size, 0, none⟩) (by simp) (.slice g3 (P + 1 + (n6 - P)) c3)) (by kernel_rfl) rfl (five_one _ _ _ _ _ _ _ _ _) ?_; intro W9 hB9 kB9))
              refine bodyPost_ret (results_cell_tmp1 _ _ _ _ _ _ _ (by rfl) hB9 Try.underlying35 rfl (by kernel_rfl) rfl) rfl ?_
              exact TF.out.fin hok HCODE.out HP.out HRS.out O3.out KX3.out B3.out kB9
end Go.Proofs.Ytgnigkghkldcfaa
