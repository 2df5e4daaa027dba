/-
  slices.stableCmpFunc and SortStableFunc at fewer than 40 snapshots: sorted, and what is equal stands as it stood.
-/
import Derived.Test.YtgnigkghkldcfaaSymS3
namespace Go.Proofs.Ytgnigkghkldcfaa
open Go.RowKit Go.Proofs Go.Lib Go.Sort Go.Shelf


def insRen : Go.Shelf.Ren := ⟨fun | 20 => 145 | n => n, fun | 24 => 108 | 22 => 93 | 3 => 3 | 25 => 170 | 4 => 4 | 0 => 0 | n => n, fun | n => n⟩
theorem insLays : Go.Proofs.SlLaysF0.n20 Try.prog insRen := {
  mixed := by kernel_rfl
  f20 := ⟨Try.f145.name, by decide, Try.func145.trans (congrArg some (by kernel_rfl))⟩
  t0 := Try.underlying0
  a0 := Try.isAgg0
  z0 := Try.sizeOf0
  v0 := Try.zeroValue0
  t3 := Try.underlying3
  a3 := Try.isAgg3
  z3 := Try.sizeOf3
  v3 := Try.zeroValue3
  t4 := Try.underlying4
  a4 := Try.isAgg4
  z4 := Try.sizeOf4
  v4 := Try.zeroValue4
  t22 := Try.underlying93
  a22 := Try.isAgg93
  z22 := Try.sizeOf93
  v22 := Try.zeroValue93
  t25 := Try.underlying170
  a25 := Try.isAgg170
  z25 := Try.sizeOf170
  v25 := Try.zeroValue170 }

section
variable {α : Type} [Inhabited α]
theorem insInner_size (lt : α → α → Bool) (a : Nat) : ∀ (j : Nat) (d : Array α), (insInner lt a j d).size = d.size
  | 0, d => by rw [insInner_stop lt a 0 d (.inl (by omega))]
  | j + 1, d => by
    by_cases c : a < j + 1
    · cases hl : lt d[j + 1]! d[j]! with
      | true =>
        rw [insInner_go lt a (j + 1) d c (by rw [Nat.add_sub_cancel]; exact hl)]
        exact (insInner_size lt a j _).trans (size_swp _ _ _)
      | false => rw [insInner_stop lt a (j + 1) d (.inr (by rw [Nat.add_sub_cancel]; exact hl))]
    · rw [insInner_stop lt a (j + 1) d (.inl (by omega))]
theorem insOuter_size (lt : α → α → Bool) (a b : Nat) : ∀ (n i : Nat) (d : Array α), b - i = n → (insOuter lt a b i d).size = d.size
  | 0, i, d, h => by rw [insOuter_stop _ _ _ _ _ (by omega)]
  | n + 1, i, d, h => by
    rw [insOuter_go _ _ _ _ _ (by omega), insOuter_size lt a b n (i + 1) _ (by omega)]
    exact insInner_size lt a i d
theorem insertionSort_size (lt : α → α → Bool) (a b : Nat) (d : Array α) : (Sort.insertionSort lt d a b).size = d.size := insOuter_size lt a b _ (a + 1) d rfl
end

/-- slices.insertionSortCmpFunc at snapshots, from a world of the sort's to a world of the sort's -/
theorem insS_any {K : Nat} (zE : ∀ w, (Go.sizeOf 108).run Try.prog w = .ok K w) {enc : Nat → List Value} (cf : Nat → Nat → Int) (g : Nat) (cb : Array Value) (blk off cap a b : Nat) (d0 d : Array Nat) (w0 w : World)
    (eg : ∀ args w, (callFunc g args).run Try.prog w = .ok (.enter g args) w) (hcmp : CmpLays Try.prog g cb enc K cf blk off d0.size w0) (R : RowK enc K w0 blk off d0) (hs : d0.size = d.size) (S : SWK enc K w0 blk off d w) (hab : a ≤ b) (hb : b ≤ d.size) (hsz : d.size < 4611686018427387904) :
    Calls Try.prog 145 #[.slice (some ⟨blk, off, none⟩) d.size cap, .int .i64 a, .int .i64 b, .func (.func g) #[] cb] w fun e w' => e = .returned (.tuple #[]) ∧ SWK enc K w0 blk off (Sort.insertionSort (ltOf cf) d a b) w' := by
  have hs' : (Sort.insertionSort (ltOf cf) d a b).size = d.size := insertionSort_size _ _ _ _
  have hC : CmpLays Try.prog g cb enc K cf blk off d.size w := fun m os dk hdk x y => by
    obtain ⟨n0, os0, rfl⟩ := S
    rw [sortWorldK_on enc K w0 blk off n0 m d dk os0 os R.hblk hdk]
    exact hcmp _ _ dk (by omega) x y
  refine (AnyQ.insertionSortCmpFunc insLays K isAggS zE enc R.hk R.h1 cf g cb blk off cap a b d w eg hC (S.holds R.hblk R.hH hs.symm) (S.lt R.hblk) hab hb hsz).mono ?_
  rintro e w' ⟨rfl, n, os, rfl⟩
  exact ⟨rfl, S.on R.hblk n _ os hs'⟩

set_option maxHeartbeats 4000000 in
set_option maxRecDepth 1000000 in
theorem stable_anyS {K : Nat} (zE : ∀ w, (Go.sizeOf 108).run Try.prog w = .ok K w) {enc : Nat → List Value} {blk off cap n : Nat} {d : Array Nat} {w : World} {cf : Nat → Nat → Int} {le : Nat → Nat → Prop} (tr : ∀ x y z, le x y → le y z → le x z) {g : Nat} {cb : Array Value}
    (eg : ∀ args w, (callFunc g args).run Try.prog w = .ok (.enter g args) w) (hcmp : CmpLays Try.prog g cb enc K cf blk off d.size w) (R : RowK enc K w blk off d) (hn : n = d.size) (h40 : n < 40) (hr : Right2 (ltOf cf) le 0 d.size d) :
    Calls Try.prog 122 #[.slice (some ⟨blk, off, none⟩) n cap, .int .i64 n, .func (.func g) #[] cb] w fun e w' => e = .returned (.tuple #[]) ∧ ∃ d', Mrg le 0 d.size d d' ∧ SWK enc K w blk off d' w' := by
  have S0 : SWK enc K w blk off d w := SWK.start R.hH
  have hsz : d.size < 4611686018427387904 := by omega
  by_cases h20 : n < 20
  · have h1 := insS_any zE cf g cb blk off cap 0 d.size d d w w eg hcmp R rfl S0 (Nat.zero_le _) (Nat.le_refl _) hsz
    have hm := insertion_srt tr (Nat.zero_le _) (Nat.le_refl _) hr
    have HM := Lib.hid hm
    have HC := Lib.hid (show Calls Try.prog 145 #[.slice (some ⟨blk, off, none⟩) n cap, .int .i64 0, .int .i64 n, .func (.func g) #[] cb] w fun e w' => e = .returned (.tuple #[]) ∧ SWK enc K w blk off (Sort.insertionSort (ltOf cf) d 0 d.size) w' by rw [hn]; exact h1)
    have z1 : ¬ (20 : Int) ≤ (n : Int) := by omega
    have z2 : ¬ (20 : Int) < (n : Int) := by omega
    clear h1 hm hcmp R S0 hr tr hn
    go_enter Try.func122, Try.ntmps122
    go_wp2
    refine wp_loop_rounds 1 ?_
    rw [rounds_succ]
    go_wp2_with fail
    refine HC.out.mono ?_
    rintro e w1 ⟨rfl, S1⟩
    have HS := Lib.hid S1
    clear S1
    go_wp2
    refine wp_loop_rounds 1 ?_
    rw [rounds_succ]
    go_wp2
    go_end0
    exact ⟨rfl, _, HM.out, HS.out⟩
  · have hn20 : 20 ≤ d.size := by omega
    have h1 := insS_any zE cf g cb blk off cap 0 20 d d w w eg hcmp R rfl S0 (Nat.zero_le _) hn20 hsz
    have m1 := insertion_srt tr (Nat.zero_le 20) hn20 (hr.mono (Nat.le_refl _) hn20)
    obtain ⟨d1, hd1⟩ : ∃ d1, d1 = Sort.insertionSort (ltOf cf) d 0 20 := ⟨_, rfl⟩
    rw [← hd1] at h1 m1
    have z1 : d1.size = d.size := m1.perm.1
    have hr1 : Right2 (ltOf cf) le 20 d.size d1 := (hr.mono (Nat.zero_le _) (Nat.le_refl _)).same (fun k k1 _ => m1.perm.2.1 k (.inr k1))
    have m2 := insertion_srt tr hn20 (by omega : d.size ≤ d1.size) hr1
    obtain ⟨d2, hd2⟩ : ∃ d2, d2 = Sort.insertionSort (ltOf cf) d1 20 d.size := ⟨_, rfl⟩
    have hruns := hr.runs (Nat.le_refl _) m1 (by rw [← hd2] at m2; exact m2)
    have hp := permIn_trans _ _ _ _ _ (permIn_mono _ _ _ _ 0 d.size (Nat.le_refl _) hn20 (Nat.le_refl _) m1.perm) (permIn_mono _ _ _ _ 0 d.size (Nat.zero_le _) (Nat.le_refl _) (by omega) m2.perm)
    rw [← hd2] at hp m2
    have z2 : d2.size = d.size := hp.1
    have H1 := Lib.hid (show Calls Try.prog 145 #[.slice (some ⟨blk, off, none⟩) n cap, .int .i64 0, .int .i64 20, .func (.func g) #[] cb] w fun e w' => e = .returned (.tuple #[]) ∧ SWK enc K w blk off d1 w' by rw [hn]; exact h1)
    have H2 := Lib.hid (fun (w1 : World) (S1 : SWK enc K w blk off d1 w1) => (show Calls Try.prog 145 #[.slice (some ⟨blk, off, none⟩) n cap, .int .i64 20, .int .i64 n, .func (.func g) #[] cb] w1 fun e w' => e = .returned (.tuple #[]) ∧ SWK enc K w blk off d2 w' by
      have h := insS_any zE cf g cb blk off cap 20 d.size d d1 w w1 eg hcmp R z1.symm S1 hn20 (by omega) (by omega)
      rw [hd2, hn, ← z1]; rw [← z1] at h; exact h))
    have H3 := Lib.hid (fun (w2 : World) (S2 : SWK enc K w blk off d2 w2) (hl : 20 < n) => (show Calls Try.prog 146 #[.slice (some ⟨blk, off, none⟩) n cap, .int .i64 0, .int .i64 20, .int .i64 n, .func (.func g) #[] cb] w2 fun e w' => e = .returned (.tuple #[]) ∧ ∃ d', Mrg le 0 d.size d2 d' ∧ SWK enc K w blk off d' w' by
      have h := sym_anyS zE tr eg hcmp R z2.symm S2 (by omega : 0 < 20) (by omega : 20 < d.size) (by omega) (by omega) hruns (cap := cap)
      rw [z2] at h
      rw [hn]; exact h))
    have HP := Lib.hid hp
    have HM : Hid (n = 20 → Srt le 0 d.size d2) := fun e => by
      intro i j h1 h2 h3
      exact hruns.left i j h1 h2 (by omega)
    have y1 : (20 : Int) ≤ (n : Int) := by omega
    have y2 : ¬ (40 : Int) ≤ (n : Int) := by omega
    have y3 : ¬ (40 : Int) < (n : Int) := by omega
    clear h1 m1 m2 hd1 hd2 z1 hr1 hruns hp hcmp R S0 hr tr z2 hn20 hsz hn
    by_cases hl : n = 20
    · have y4 : ¬ (20 : Int) < (n : Int) := by omega
      have HN := Lib.hid hl
      clear hl
      go_enter Try.func122, Try.ntmps122
      go_wp2
      refine wp_loop_rounds 2 ?_
      rw [rounds_succ]
      go_wp2_with fail
      with_reducible refine H1.out.mono ?_
      rintro e w1 ⟨rfl, S1⟩
      have HS1 := Lib.hid S1
      clear S1
      go_wp2
      rw [rounds_succ]
      go_wp2_with fail
      with_reducible refine (H2.out _ HS1.out).mono ?_
      rintro e w2 ⟨rfl, S2⟩
      have HS2 := Lib.hid S2
      clear S2
      go_wp2
      refine wp_loop_rounds 1 ?_
      rw [rounds_succ]
      go_wp2
      go_end0
      exact ⟨rfl, d2, ⟨HP.out, HM.out HN.out⟩, HS2.out⟩
    · have y4 : (20 : Int) < (n : Int) := by omega
      have HL : Hid (20 < n) := (by omega : 20 < n)
      clear hl
      go_enter Try.func122, Try.ntmps122
      go_wp2
      refine wp_loop_rounds 2 ?_
      rw [rounds_succ]
      go_wp2_with fail
      with_reducible refine H1.out.mono ?_
      rintro e w1 ⟨rfl, S1⟩
      have HS1 := Lib.hid S1
      clear S1
      go_wp2
      rw [rounds_succ]
      go_wp2_with fail
      with_reducible refine (H2.out _ HS1.out).mono ?_
      rintro e w2 ⟨rfl, S2⟩
      have HS2 := Lib.hid S2
      clear S2
      go_wp2
      refine wp_loop_rounds 2 ?_
      rw [rounds_succ]
      go_wp2
      refine wp_loop_rounds 1 ?_
      rw [rounds_succ]
      go_wp2_with fail
      with_reducible refine (H3.out _ HS2.out HL.out).mono ?_
      rintro e w3 ⟨rfl, d3, M3, S3⟩
      have HF := Lib.hid (Mrg.trans HP.out M3 (Nat.le_refl _) (Nat.le_refl _) (Nat.le_refl _))
      have HS3 := Lib.hid S3
      clear M3 S3
      go_wp2
      rw [rounds_succ]
      go_wp2
      go_end0
      exact ⟨rfl, d3, HF.out, HS3.out⟩

set_option maxRecDepth 100000 in
theorem sortStable_anyS {K : Nat} (zE : ∀ w, (Go.sizeOf 108).run Try.prog w = .ok K w) {enc : Nat → List Value} {blk off cap n : Nat} {d : Array Nat} {w : World} {cf : Nat → Nat → Int} {le : Nat → Nat → Prop} (tr : ∀ x y z, le x y → le y z → le x z) {g : Nat} {cb : Array Value}
    (eg : ∀ args w, (callFunc g args).run Try.prog w = .ok (.enter g args) w) (hcmp : CmpLays Try.prog g cb enc K cf blk off d.size w) (R : RowK enc K w blk off d) (hn : n = d.size) (h40 : n < 40) (hr : Right2 (ltOf cf) le 0 d.size d) :
    Calls Try.prog 101 #[.slice (some ⟨blk, off, none⟩) n cap, .func (.func g) #[] cb] w fun e w' => e = .returned (.tuple #[]) ∧ ∃ d', Mrg le 0 d.size d d' ∧ SWK enc K w blk off d' w' := by
  have HC := Lib.hid (stable_anyS zE tr eg hcmp R hn h40 hr (cap := cap))
  have h40' : (n : Int) < 40 := by omega
  clear hcmp R hn hr tr
  go_enter Try.func101, Try.ntmps101
  go_wp2_with fail
  refine HC.out.mono ?_
  rintro e w1 ⟨rfl, d1, M1, S1⟩
  have HM := Lib.hid M1; have HS := Lib.hid S1
  clear M1 S1
  go_wp2
  go_end0
  exact ⟨rfl, d1, HM.out, HS.out⟩
end Go.Proofs.Ytgnigkghkldcfaa
