/-
  coldstoreref06: without, Put, Get, Drop, List.
-/
import Derived.Test.YtgnigkghkldcfaaRef6b
import Derived.Test.YtgnigkghkldcfaaAppendL
import Derived.Test.YtgnigkghkldcfaaBegins
import Derived.Test.YtgnigkghkldcfaaResCell
namespace Go.Proofs.Ytgnigkghkldcfaa
open Go.RowKit Go.Proofs Go.Lib

theorem info_thing : (Try.prog.info? 133).map (fun i => (i.zero, i.size, i.bytes)) = some (some (.agg #[.string ⟨#[]⟩, .slice none 0 0]), 2, 40) := by kernel_rfl

theorem thCells_one (L : List ((Bs × Bs) × Value)) (h : ∀ p ∈ L, ∃ a n c, p.2 = .slice a n c) : ∀ u ∈ L.flatMap thCells, u.oneCell' = true := by
  intro u hu
  obtain ⟨p, hp, hu⟩ := List.mem_flatMap.1 hu
  simp only [thCells, List.mem_cons, List.not_mem_nil, or_false] at hu
  rcases hu with rfl | rfl
  · rfl
  · obtain ⟨a, n, c, e⟩ := h p hp
    rw [e]; rfl

/-- a part of a slice -/
theorem Sl.head {w : World} {k n m c : Nat} {a : Option Addr} {xs : List Value} (h : Sl w k (.slice a n c) n xs) (hm : m ≤ n) : Sl w k (.slice a m c) m (xs.take (m * k)) := by
  obtain ⟨h1, a', c', e, h2, h3, h4, h5⟩ := h
  simp only [Value.slice.injEq] at e
  obtain ⟨rfl, _, rfl⟩ := e
  have hmk : m * k ≤ n * k := Nat.mul_le_mul_right k hm
  refine ⟨by rw [List.length_take]; omega, _, c, rfl, by omega, h3, h4, fun hm0 => ?_⟩
  obtain ⟨b, o, e2, h6⟩ := h5 (by omega)
  refine ⟨b, o, e2, fun j hj => ?_⟩
  rw [h6 j (by omega), List.getElem?_take, if_pos hj]
theorem Sl.tail {w : World} {k n m c : Nat} {b o : Nat} {xs : List Value} (h : Sl w k (.slice (some ⟨b, o, none⟩) n c) n xs) (hm : m ≤ n) : Sl w k (.slice (some ⟨b, o + m * k, none⟩) (n - m) (c - m)) (n - m) (xs.drop (m * k)) := by
  obtain ⟨h1, a', c', e, h2, h3, h4, h5⟩ := h
  simp only [Value.slice.injEq] at e
  obtain ⟨rfl, _, rfl⟩ := e
  refine ⟨by rw [List.length_drop, h1, Nat.sub_mul], _, _, rfl, by omega, by omega, (fun e => by cases e), fun hn => ?_⟩
  obtain ⟨b', o', e2, h6⟩ := h5 (by omega)
  cases e2
  refine ⟨b, o + m * k, rfl, fun j hj => ?_⟩
  have : (n - m) * k = n * k - m * k := Nat.sub_mul _ _ _
  have h7 := h6 (m * k + j) (by omega)
  rw [Nat.add_assoc, h7, List.getElem?_drop]
theorem flat_take (L : List ((Bs × Bs) × Value)) : ∀ m : Nat, (L.flatMap thCells).take (m * 2) = (L.take m).flatMap thCells := by
  induction L with
  | nil => simp
  | cons a r ih =>
    intro m
    cases m with
    | zero => simp
    | succ m =>
      rw [show (m + 1) * 2 = m * 2 + 2 from by omega]
      simp [thCells, ← ih m, List.take_succ_cons]
theorem flat_drop (L : List ((Bs × Bs) × Value)) : ∀ m : Nat, (L.flatMap thCells).drop (m * 2) = (L.drop m).flatMap thCells := by
  induction L with
  | nil => simp
  | cons a r ih =>
    intro m
    cases m with
    | zero => simp
    | succ m =>
      rw [show (m + 1) * 2 = m * 2 + 2 from by omega]
      simp [thCells, ← ih m, List.drop_succ_cons]

set_option maxRecDepth 100000 in
set_option maxHeartbeats 2000000 in
theorem r6without_any {w : World} {rv fv : Value} {L : List ((Bs × Bs) × Value)} {RS : Nat → Prop} {s : OS} (h : RfL w rv fv L RS s) (k : Nat) (hk : k < L.length) (hn : L.length ≤ 4096) :
    Calls Try.prog 106 #[refV rv fv s, .int .i64 k] w fun e w' => ∃ rv', e = .returned (refV rv' fv s) ∧ RowSh rv' ∧ ThAt w' rv' (L.take k ++ L.drop (k + 1)) ∧ (∀ b, vblk rv' = some b → w.heap.size ≤ b) ∧ Keep (fun _ => False) w w' := by
  obtain ⟨ra, rc, rfl⟩ : ∃ a c, rv = .slice a L.length c := let ⟨_, a, c, e, _⟩ := h.rows.row; ⟨a, c, e⟩
  obtain ⟨fa, fn, fc, rfl⟩ : ∃ a n c, fv = .slice a n c := let ⟨_, a, c, e, _⟩ := h.faults; ⟨a, _, c, e⟩
  obtain ⟨rb, ro, rc', ev, r1, r2⟩ := Sl.base h.rows.row (by omega)
  cases ev
  unfold refV
  obtain ⟨row, quota, ops, left, faults⟩ := s
  dsimp only
  have HT := Lib.hid h
  have hbs : ∀ p ∈ L, ∃ a n c, p.2 = .slice a n c := fun p hp => let ⟨_, a, c, e, _⟩ := h.rows.bytes p hp; ⟨a, _, c, e⟩
  have HBS := Lib.hid hbs
  clear h hbs
  obtain ⟨i0, hi, hz0, hz1, hz2⟩ := info_parts info_thing
  obtain ⟨N, hN⟩ : ∃ N : Nat, N = L.length := ⟨_, rfl⟩
  have HN := Lib.hid hN
  rw [← hN] at hk hn r1 ⊢
  clear hN
  unfold maxLen at r2
  have hk1 : (0 : Int) ≤ k := by omega
  have hk2 : (k : Int) ≤ N := by omega
  have hk3 : (k : Int) ≤ rc := by omega
  obtain ⟨A, hA⟩ : ∃ A, A = Obj.cells #[.slice (some ⟨rb, ro, none⟩) N rc, .int .i64 quota, .int .i64 ops, .int .i64 left, .slice fa fn fc] 35 := ⟨_, rfl⟩
  obtain ⟨B, hB⟩ : ∃ B, B = Obj.cells #[.slice none 0 0, .int .i64 0, .int .i64 0, .int .i64 0, .slice none 0 0] 35 := ⟨_, rfl⟩
  have k3 : Keep (fun _ => False) w (((w.alloc A).alloc B).alloc (.cells #[] 133)) := (((Keep.refl _ _).alloc _).alloc _).alloc _
  have hbA : (((w.alloc A).alloc B).alloc (.cells #[] 133)).heap[w.heap.size]? = some A := alloc_blk (alloc_blk (alloc_new _ _) _) _
  have hbB : (((w.alloc A).alloc B).alloc (.cells #[] 133)).heap[w.heap.size + 1]? = some B := by
    have := alloc_new (w.alloc A) B
    rw [World.size_alloc] at this
    exact alloc_blk this _
  have hown0 : (((w.alloc A).alloc B).alloc (.cells #[] 133)).ownsRow (w.heap.size + 1 + 1) 133 2 (.slice (some ⟨w.heap.size + 1 + 1, 0, none⟩) 0 0) 0 [] := by
    have := World.ownsRow_made (e := 133) (size := 2) ((w.alloc A).alloc B) #[] 0 (Nat.le_refl _) (Nat.zero_le _) rfl
    simp only [World.size_alloc] at this
    exact this
  have hsr : Sl w 2 (.slice (some ⟨rb, ro, none⟩) N rc) N (L.flatMap thCells) := by have := HT.out.rows.row; rw [← HN.out] at this; exact this
  have hsl0 : Sl (((w.alloc A).alloc B).alloc (.cells #[] 133)) 2 (.slice (some ⟨rb, ro, none⟩) k rc) k ((L.take k).flatMap thCells) := by
    rw [← flat_take]
    exact Sl.keep (Sl.head hsr (by omega)) k3 (fun _ _ _ e => e)
  have hone0 : ∀ u ∈ (L.take k).flatMap thCells, u.oneCell' = true := thCells_one _ (fun p hp => HBS.out p (List.mem_of_mem_take hp))
  have hone1 : ∀ u ∈ (L.drop (k + 1)).flatMap thCells, u.oneCell' = true := thCells_one _ (fun p hp => HBS.out p (List.mem_of_mem_drop hp))
  have hsz3 : (((w.alloc A).alloc B).alloc (.cells #[] 133)).heap.size = w.heap.size + 3 := by simp
  have after1 : ∀ (v1 : Value) (W1 : World), W1.ownsRow (w.heap.size + 1 + 1) 133 2 v1 (0 + k) ([] ++ (L.take k).flatMap thCells) → Keep (fun b => vblk (.slice (some ⟨w.heap.size + 1 + 1, 0, none⟩) 0 0) = some b) (((w.alloc A).alloc B).alloc (.cells #[] 133)) W1 →
      (∀ b, vblk v1 = some b → vblk (.slice (some ⟨w.heap.size + 1 + 1, 0, none⟩) 0 0) = some b ∨ (((w.alloc A).alloc B).alloc (.cells #[] 133)).heap.size ≤ b) →
      ∃ g n c, v1 = .slice g n c ∧ W1.ownsRow (w.heap.size + 1 + 1) 133 2 (.slice g n c) k ((L.take k).flatMap thCells) ∧ W1.cell? ⟨w.heap.size, 0, none⟩ = some (.slice (some ⟨rb, ro, none⟩) N rc) ∧ Hid (Keep (fun _ => False) w W1 ∧ W1.heap[w.heap.size]? = some A ∧ W1.heap[w.heap.size + 1]? = some B ∧
        ∀ x, vblk (.slice g n c) = some x → w.heap.size + 2 ≤ x) ∧ w.heap.size + 1 + 1 ≤ W1.heap.size := by
    intro v1 W1 hown hk1 hb1
    rw [Nat.zero_add, List.nil_append] at hown
    have h1 := hk1.heap hbA (by simp [vblk]; omega)
    have h2 := hk1.heap hbB (by simp [vblk])
    have h1' := h1
    rw [hA] at h1'
    have hz := hk1.size
    rw [hsz3] at hz
    obtain ⟨a1, c1, e1⟩ := own_slice hown
    subst e1
    refine ⟨_, _, _, rfl, hown, by rw [cell_blk h1']; rfl, Lib.hid ⟨k3.trans' hk1 (fun _ _ e => e) (fun i hi e => by simp [vblk] at e; omega), h1, h2, fun x e => ?_⟩, by omega⟩
    rcases hb1 x e with e | e
    · simp [vblk] at e; omega
    · omega
  rw [hA, hB] at after1
  have after2 : ∀ (W1 : World) (v1 v2 : Value) (W2 : World) (n1 : Nat) (ys : List Value), (Keep (fun _ => False) w W1 ∧ W1.heap[w.heap.size]? = some A ∧ W1.heap[w.heap.size + 1]? = some B ∧ ∀ x, vblk v1 = some x → w.heap.size + 2 ≤ x) → W2.ownsRow (w.heap.size + 1 + 1) 133 2 v2 n1 ys →
      Keep (fun b => vblk v1 = some b) W1 W2 → (∀ b, vblk v2 = some b → vblk v1 = some b ∨ W1.heap.size ≤ b) →
      ∃ g c, v2 = .slice g n1 c ∧ Hid (W2.ownsRow (w.heap.size + 1 + 1) 133 2 (.slice g n1 c) n1 ys) ∧ (W2.cell? ⟨w.heap.size, 0, none⟩ = some (.slice (some ⟨rb, ro, none⟩) N rc) ∧ W2.cell? ⟨w.heap.size, 1, none⟩ = some (.int .i64 quota) ∧ W2.cell? ⟨w.heap.size, 2, none⟩ = some (.int .i64 ops) ∧ W2.cell? ⟨w.heap.size, 3, none⟩ = some (.int .i64 left) ∧ W2.cell? ⟨w.heap.size, 4, none⟩ = some (.slice fa fn fc)) ∧
        W2.frozen? ⟨w.heap.size, 0, none⟩ = false ∧ (W2.cell? ⟨w.heap.size + 1, 0, none⟩ = some (.slice none 0 0) ∧ W2.cell? ⟨w.heap.size + 1, 1, none⟩ = some (.int .i64 0) ∧ W2.cell? ⟨w.heap.size + 1, 2, none⟩ = some (.int .i64 0) ∧ W2.cell? ⟨w.heap.size + 1, 3, none⟩ = some (.int .i64 0) ∧ W2.cell? ⟨w.heap.size + 1, 4, none⟩ = some (.slice none 0 0)) ∧
        (∀ i, W2.frozen? ⟨w.heap.size + 1, i, none⟩ = false) ∧ Hid ((Keep (fun _ => False) w W2 ∧ (∀ x, vblk (.slice g n1 c) = some x → w.heap.size + 2 ≤ x)) ∧ W2.heap[w.heap.size + 1]? = some B) := by
    rintro W1 v1 v2 W2 n1 ys ⟨hkw, h1, h2, h3⟩ hown hk2 hb2
    have g1 := hk2.heap h1 (fun e => by have := h3 _ e; omega)
    have g2 := hk2.heap h2 (fun e => by have := h3 _ e; omega)
    obtain ⟨a1, c1, e1⟩ := own_slice hown
    subst e1
    have g2' := g2
    rw [hA] at g1
    rw [hB] at g2
    have hlt := lt_blk h2
    refine ⟨_, _, rfl, Lib.hid hown, ⟨by rw [cell_blk g1]; rfl, by rw [cell_blk g1]; rfl, by rw [cell_blk g1]; rfl, by rw [cell_blk g1]; rfl, by rw [cell_blk g1]; rfl⟩, frozen_blk g1 0, ⟨by rw [cell_blk g2]; rfl, by rw [cell_blk g2]; rfl, by rw [cell_blk g2]; rfl, by rw [cell_blk g2]; rfl, by rw [cell_blk g2]; rfl⟩, fun i => frozen_blk g2 i,
      Lib.hid ⟨⟨hkw.trans' hk2 (fun _ _ e => e) (fun i hi e => by have := h3 _ e; omega), fun x e => ?_⟩, g2'⟩⟩
    rcases hb2 x e with e | e
    · exact h3 x e
    · omega
  rw [hA, hB] at after2
  rw [hA, hB] at hown0 hsl0 k3 hbA hbB hsz3
  have HAF1 := Lib.hid after1; have HAF2 := Lib.hid after2
  have HSR := Lib.hid hsr; have HO0 := Lib.hid hown0; have HL0 := Lib.hid hsl0; have HE0 := Lib.hid hone0; have HE1 := Lib.hid hone1; have HSZ3 := Lib.hid hsz3
  clear hsr k3 hbA hbB hown0 hsl0 hone0 hone1 hsz3 after1 after2
  have fin : ∀ (W2 W' : World) (g2 : Option Addr) (n2 c2 : Nat), W2.ownsRow (w.heap.size + 1 + 1) 133 2 (.slice g2 n2 c2) n2 ((L.take k).flatMap thCells ++ (L.drop (k + 1)).flatMap thCells) → Keep (fun x => x = w.heap.size ∨ x = w.heap.size + 1) W2 W' → (Keep (fun _ => False) w W2 ∧ ∀ x, vblk (.slice g2 n2 c2) = some x → w.heap.size + 2 ≤ x) →
      RowSh (.slice g2 n2 c2) ∧ ThAt W' (.slice g2 n2 c2) (L.take k ++ L.drop (k + 1)) ∧ (∀ b, vblk (.slice g2 n2 c2) = some b → w.heap.size ≤ b) ∧ Keep (fun _ => False) w W' := by
    rintro W2 W' g2 n2 c2 hown hk ⟨hkw, hlo⟩
    have hkk : Keep (fun _ => False) w W' := hkw.trans' hk (fun _ _ e => e) (fun i hi e => by omega)
    have hsl := Sl.keep (Sl.of_owns hown).1 hk (fun b _ e h => by have := hlo b e; omega)
    refine ⟨own_sh hown, ⟨?_, fun p hp => ?_⟩, fun b e => by have := hlo b e; omega, hkk⟩
    · have e1 : (L.take k).flatMap thCells ++ (L.drop (k + 1)).flatMap thCells = (L.take k ++ L.drop (k + 1)).flatMap thCells := by rw [List.flatMap_append]
      have e2 : n2 = (L.take k ++ L.drop (k + 1)).length := by
        have := hsl.1
        rw [e1, flat_th_length] at this
        omega
      rw [e1] at hsl
      rw [← e2]
      exact hsl
    · have hm : p ∈ L := by
        rcases List.mem_append.1 hp with h | h
        · exact List.mem_of_mem_take h
        · exact List.mem_of_mem_drop h
      exact Sl.keep (HT.out.rows.bytes p hm) hkk (fun _ _ _ e => e)
  have HFIN := Lib.hid fin
  clear fin
  by_cases hc : rc = k + 1
  · have hNk : N = k + 1 := by omega
    subst hc
    have hdrop : (L.drop (k + 1)).flatMap thCells = [] := by rw [List.drop_of_length_le (by rw [← HN.out]; omega)]; rfl
    have HDR := Lib.hid hdrop
    subst hNk
    have src : ∀ W1 : World, Sl W1 2 (.slice (some ⟨rb, ro, none⟩) 0 0) 0 ((L.drop (k + 1)).flatMap thCells) := fun W1 => by
      rw [hdrop]
      exact ⟨rfl, _, _, rfl, Nat.le_refl _, Nat.zero_le _, fun _ => rfl, fun h => absurd h (Nat.lt_irrefl _)⟩
    have HSC := Lib.hid src
    clear hA hB src hdrop
    go_enter Try.func106, Try.ntmps106
    go_wp2_with (first | (at_builtin; refine wpList_append_sl rfl (.tmp 6) (.tmp 10) 33 rfl (w.heap.size + 1 + 1) 133 i0 _ 2 40 Try.underlying33 hi hz0 hz1 hz2 rfl (by decide) (.slice (some ⟨w.heap.size + 1 + 1, 0, none⟩) 0 0) 0 [] rfl HO0.out _ k ((L.take k).flatMap thCells) rfl HL0.out HE0.out ?b1 ?b2 ?b3 ?_; rotate_left 3; intro v1 W1 hown1 hk1 hb1; obtain ⟨g1, n1, c1, e1, ho1, cc1, H1, z1⟩ := HAF1.out v1 W1 hown1 hk1 hb1; subst e1; have HO1 := Lib.hid ho1; clear ho1 hown1 hk1 hb1) | (at_builtin; refine wpList_append_sl rfl (.tmp 12) (.tmp 17) 33 rfl (w.heap.size + 1 + 1) 133 i0 _ 2 40 Try.underlying33 hi hz0 hz1 hz2 rfl (by decide) (.slice g1 n1 c1) k ((L.take k).flatMap thCells) rfl HO1.out _ 0 ((L.drop (k + 1)).flatMap thCells) rfl (HSC.out _) HE1.out ?b4 ?b5 z1 ?_; rotate_left 2; intro v2 W2 hown2 hk2 hb2; obtain ⟨g2, c2, e2, HO2, ⟨ca0, ca1, ca2, ca3, ca4⟩, fa0, ⟨cb0, cb1, cb2, cb3, cb4⟩, fb, HK2⟩ := HAF2.out W1 _ v2 W2 _ _ H1.out hown2 hk2 hb2; subst e2; clear hown2 hk2 hb2))
    case b1 => unfold maxLen; omega
    case b2 => omega
    case b4 => unfold maxLen; omega
    case b5 => omega
    have hbx := set_five (set_other HK2.out.2 (p := ⟨w.heap.size, 0, none⟩) (by simp) (.slice g2 k c2)) (.slice g2 k c2) (.int .i64 quota) (.int .i64 ops) (.int .i64 left) (.slice fa fn fc)
    refine bodyPost_ret (results_cell1 _ _ _ _ _ _ _ (by rfl) hbx Try.underlying35 rfl (by kernel_rfl) rfl) rfl ?_
    exact ⟨_, rfl, HFIN.out _ _ _ _ _ HO2.out (set_five_keep ((Keep.refl _ W2).setCell (p := ⟨w.heap.size, 0, none⟩) (fun _ => .inl rfl) _) (.inr rfl) _ _ _ _ _) HK2.out.1⟩
  · have src : ∀ W1, Keep (fun _ => False) w W1 → Sl W1 2 (.slice (some ⟨rb, ro + (k + 1) * 2, none⟩) (N - (k + 1)) (rc - (k + 1))) (N - (k + 1)) ((L.drop (k + 1)).flatMap thCells) := fun W1 hk => by
      rw [← flat_drop]
      exact Sl.keep (Sl.tail HSR.out (by omega)) hk (fun _ _ _ e => e)
    have HSC := Lib.hid src; clear src
    clear hA hB
    go_enter Try.func106, Try.ntmps106
    go_wp2_with (first | (at_builtin; refine wpList_append_sl rfl (.tmp 6) (.tmp 10) 33 rfl (w.heap.size + 1 + 1) 133 i0 _ 2 40 Try.underlying33 hi hz0 hz1 hz2 rfl (by decide) (.slice (some ⟨w.heap.size + 1 + 1, 0, none⟩) 0 0) 0 [] rfl HO0.out _ k ((L.take k).flatMap thCells) rfl HL0.out HE0.out ?d1 ?d2 ?d3 ?_; rotate_left 3; intro v1 W1 hown1 hk1 hb1; obtain ⟨g1, n1, c1, e1, ho1, cc1, H1, z1⟩ := HAF1.out v1 W1 hown1 hk1 hb1; subst e1; have HO1 := Lib.hid ho1; clear ho1 hown1 hk1 hb1) | (at_builtin; refine wpList_append_sl rfl (.tmp 12) (.tmp 17) 33 rfl (w.heap.size + 1 + 1) 133 i0 _ 2 40 Try.underlying33 hi hz0 hz1 hz2 rfl (by decide) (.slice g1 n1 c1) k ((L.take k).flatMap thCells) rfl HO1.out _ (N - (k + 1)) ((L.drop (k + 1)).flatMap thCells) rfl (HSC.out _ H1.out.1) HE1.out ?d4 ?d5 z1 ?_; rotate_left 2; intro v2 W2 hown2 hk2 hb2; obtain ⟨g2, c2, e2, HO2, ⟨ca0, ca1, ca2, ca3, ca4⟩, fa0, ⟨cb0, cb1, cb2, cb3, cb4⟩, fb, HK2⟩ := HAF2.out W1 _ v2 W2 _ _ H1.out hown2 hk2 hb2; subst e2; clear hown2 hk2 hb2))
    case d1 => unfold maxLen; omega
    case d2 => omega
    case d4 => unfold maxLen; omega
    case d5 => omega
    have hbx := set_five (set_other HK2.out.2 (p := ⟨w.heap.size, 0, none⟩) (by simp) (.slice g2 (k + (N - (k + 1))) c2)) (.slice g2 (k + (N - (k + 1))) c2) (.int .i64 quota) (.int .i64 ops) (.int .i64 left) (.slice fa fn fc)
    refine bodyPost_ret (results_cell1 _ _ _ _ _ _ _ (by rfl) hbx Try.underlying35 rfl (by kernel_rfl) rfl) rfl ?_
    exact ⟨_, rfl, HFIN.out _ _ _ _ _ HO2.out (set_five_keep ((Keep.refl _ W2).setCell (p := ⟨w.heap.size, 0, none⟩) (fun _ => .inl rfl) _) (.inr rfl) _ _ _ _ _) HK2.out.1⟩
end Go.Proofs.Ytgnigkghkldcfaa
