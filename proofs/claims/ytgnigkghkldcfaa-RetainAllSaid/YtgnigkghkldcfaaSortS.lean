/-
  snap.Sort: a list, sorted, in new memory.
-/
import Derived.Test.YtgnigkghkldcfaaSymS4
import Derived.Test.YtgnigkghkldcfaaRetLaw
namespace Go.Proofs.Ytgnigkghkldcfaa
open Go.RowKit Go.Proofs Go.Lib Go.Sort Go.Shelf

theorem swk_keep {α : Type} [Inhabited α] {enc : α → List Value} {k : Nat} {w W : World} {blk off : Nat} {dk : Array α} (h : SWK enc k w blk off dk W) : Keep (fun b => b = blk) w W := by
  obtain ⟨n, os, rfl⟩ := h
  exact sortWorld_keep id w blk off n (flatK enc k dk) os

def zeroS : SnapR := ⟨0, [], [], List.replicate 32 0, 0, 0⟩
/-- the snapshot at a place, one with an id where there is none -/
def getS (L : List SnapR) (n x : Nat) : SnapR := if x < n then L[x]! else zeroS
theorem getS_in {L : List SnapR} {n x : Nat} (h : x < n) : getS L n x = L[x]! := if_pos h
theorem getS_32 {L : List SnapR} {n : Nat} (h32 : Snaps32 L) (hn : n = L.length) (x : Nat) : (getS L n x).root.length = 32 := by
  unfold getS
  split
  · rename_i h
    rw [getElem!_pos L x (by omega)]
    exact h32 _ (List.getElem_mem _)
  · simp [zeroS]

theorem right_s (L : List SnapR) (n : Nat) (d : Array Nat) (hd : ∀ i, i < n → d[i]! = i) : Right2 (ltOf (fun x y => cmpS (getS L n x) (getS L n y))) (leP L) 0 n d := by
  intro i j _ hij hj
  rw [hd i (by omega), hd j hj]
  have hc : ltOf (fun x y => cmpS (getS L n x) (getS L n y)) j i = decide (cmpS L[j]! L[i]! < 0) := by
    show decide (cmpS (getS L n j) (getS L n i) < 0) = _
    rw [getS_in hj, getS_in (by omega : i < n)]
  rw [hc]
  have := wo_cmpS.anti L[i]! L[j]!
  refine ⟨fun h => .inl (of_decide_eq_true h), fun h => ?_⟩
  have h' := of_decide_eq_false h
  unfold leP
  omega

theorem flat37_len {L : List SnapR} (h : Snaps32 L) : (L.flatMap snapCells).length = L.length * 37 := flatN_len (fun p hp => snapCells_len (h p hp))
theorem flat37_all {L : List SnapR} (h : Snaps32 L) {t : Nat} (ht : t < L.length * 37) : (L.flatMap snapCells)[t]? = (snapCells L[t / 37]!)[t % 37]? := by
  have h1 : t / 37 < L.length := by omega
  have h2 : L[t / 37]? = some L[t / 37]! := by rw [getElem!_pos L _ h1, List.getElem?_eq_getElem h1]
  have h3 : (L[t / 37]!).root.length = 32 := h _ (List.mem_of_getElem? h2)
  have h4 : t % 37 < (snapCells L[t / 37]!).length := by rw [snapCells_len h3]; omega
  have h5 := flat37 h h2 (t % 37) _ (List.getElem?_eq_getElem h4)
  rw [show t / 37 * 37 + t % 37 = t by omega] at h5
  rw [h5, List.getElem?_eq_getElem h4]

theorem snaps_rowOf {L : List SnapR} {P : List Nat} (h32 : Snaps32 L) (hP : Places L P) : Snaps32 (rowOf L P) := fun s hs => h32 s (hP.perm_row.mem_iff.1 hs)

theorem sort_snaps {w : World} {g c n base : Nat} {L : List SnapR} {P : List Nat} (h32 : Snaps32 L) (h40 : L.length < 40) (hn : n = L.length) (h0 : 0 < n) (hown : w.ownsRow base 108 37 (.slice (some ⟨g, 0, none⟩) n c) n (L.flatMap snapCells)) (hP : Places L P) :
    Calls Try.prog 101 #[.slice (some ⟨g, 0, none⟩) n c, .func (.func 102) #[] #[]] w fun e w' => e = .returned (.tuple #[]) ∧ SnapsAt w' (.slice (some ⟨g, 0, none⟩) n c) (rowOf L P) ∧ Keep (fun b => b = g) w w' := by
  obtain ⟨d, hd⟩ : ∃ d : Array Nat, d = (List.range n).toArray := ⟨_, rfl⟩
  have hdz : d.size = n := by rw [hd]; simp
  have hdi : ∀ i, i < n → d[i]! = i := fun i hi => by rw [getElem!_pos d i (by omega)]; simp [hd]
  obtain ⟨hx, hh⟩ := hown
  rcases hh with ⟨e, _⟩ | ⟨g', c', cur, e, hbase, hg, h1, h2, h3, h4⟩
  · cases e
  simp only [Value.slice.injEq, Option.some.injEq, Addr.mk.injEq, and_true, true_and] at e
  obtain ⟨rfl, rfl⟩ := e
  have hlt : g < w.heap.size := by
    rcases Nat.lt_or_ge g w.heap.size with h | h
    · exact h
    · rw [Array.getElem?_eq_none h] at hg; cases hg
  have hcell : ∀ t, t < n * 37 → w.cell? ⟨g, t, none⟩ = (snapCells (getS L n d[t / 37]!))[t % 37]? := fun t ht => by
    rw [cell_blk hg, hdi (t / 37) (by omega), getS_in (by omega : t / 37 < n), ← flat37_all h32 (by omega)]
    have e1 : (cur.toList.take (n * 37))[t]? = cur.toList[t]? := List.getElem?_take_of_lt (by omega)
    rw [h4] at e1
    rw [← Array.getElem?_toList, ← e1]
  have hlen : ∀ x, (snapCells (getS L n x)).length = 37 := fun x => snapCells_len (getS_32 h32 hn x)
  have R : RowK (fun x => snapCells (getS L n x)) 37 w g 0 d := by
    refine ⟨hlen, fun x v hv => ?_, fun t ht => ?_, hlt⟩
    · have h := snap_one (getS L n x)
      rw [List.all_toArray, List.all_eq_true] at h
      exact h v hv
    · rw [size_flatK] at ht
      rw [get_flatK _ _ _ _ ht, Nat.zero_add]
      refine ⟨?_, frozen_blk hg t⟩
      rw [hcell t (by omega)]
      have h5 : t % 37 < (snapCells (getS L n d[t / 37]!)).length := by rw [hlen]; omega
      show _ = some ((snapCells (getS L n d[t / 37]!))[t % 37]!)
      rw [getElem!_pos (snapCells (getS L n d[t / 37]!)) (t % 37) h5, List.getElem?_eq_getElem h5]
  have hcmp : CmpLays Try.prog 102 #[] (fun x => snapCells (getS L n x)) 37 (fun x y => cmpS (getS L n x) (getS L n y)) g 0 d.size w := by
    intro m os dk hs x y
    exact compare_any (getS_32 h32 hn x) (getS_32 h32 hn y) _
  have hr : Right2 (ltOf (fun x y => cmpS (getS L n x) (getS L n y))) (leP L) 0 d.size d := by rw [hdz]; exact right_s L n d hdi
  refine (sortStable_anyS sizeS leP.tr (enters Try.func102 (by decide) rfl) hcmp R hdz.symm (by omega) hr).mono ?_
  rintro e w' ⟨rfl, d', hm, hs⟩
  have hp := places_of hn hd hm
  have hz : d'.size = d.size := hm.perm.1
  obtain rfl := hP.eq hp
  have hrl : (rowOf L d'.toList).length = n := by rw [rowOf_len hp, hn]
  have r32 := snaps_rowOf h32 hp
  refine ⟨rfl, ?_, swk_keep hs⟩
  have hh := hs.holds R.hblk R.hH hz
  unfold SnapsAt
  rw [hrl]
  refine ⟨by rw [flat37_len r32, hrl], some ⟨g, 0, none⟩, c, rfl, h1, h2, (fun e => by cases e), fun _ => ⟨g, 0, rfl, fun t ht => ?_⟩⟩
  have ht' : t < d'.size * 37 := by rw [hz, hdz]; exact ht
  have hc := (hh t (by rw [size_flatK]; exact ht')).1
  rw [get_flatK _ _ _ _ ht'] at hc
  have h6 : t / 37 < d'.toList.length := by rw [Array.length_toList]; omega
  have h7 : d'[t / 37]! < n := by
    have := hp.lt (List.getElem_mem h6)
    rw [Array.getElem_toList] at this
    rw [getElem!_pos d' _ (by simpa using h6), hn]; exact this
  have h8 : (rowOf L d'.toList)[t / 37]! = L[d'[t / 37]!]! := by
    rw [rowOf_at L _ h6]
    congr 1
    rw [getElem!_pos d'.toList _ h6, getElem!_pos d' _ (by simpa using h6)]
    simp
  rw [hc, flat37_all r32 (by rw [hrl]; exact ht), h8]
  show some ((snapCells (getS L n d'[t / 37]!))[t % 37]!) = _
  rw [getS_in h7]
  have h9 : t % 37 < (snapCells L[d'[t / 37]!]!).length := by have := hlen d'[t / 37]!; rw [getS_in h7] at this; omega
  rw [getElem!_pos (snapCells L[d'[t / 37]!]!) (t % 37) h9, List.getElem?_eq_getElem h9]

theorem infoSnapC : (Try.prog.info? 108).map (fun i => (i.zero, i.size, i.bytes)) = some (some (.agg (snapCells ⟨0, [], [], List.replicate 32 0, 0, 0⟩).toArray), 37, 88) := by kernel_rfl
set_option maxRecDepth 100000 in
theorem cloneS_any {w : World} {v : Value} {L : List SnapR} (hL : SnapsAt w v L) (h32 : Snaps32 L) (h40 : L.length < 40) (h0 : 0 < L.length) :
    Calls Try.prog 100 #[v] w fun e w' => ∃ g c, e = .returned (.slice (some ⟨g, 0, none⟩) L.length c) ∧ w'.ownsRow w.heap.size 108 37 (.slice (some ⟨g, 0, none⟩) L.length c) L.length (L.flatMap snapCells) ∧ Keep (fun _ => False) w w' ∧ w.heap.size ≤ g := by
  have q := Lib.run_eql_slice_nil (P := Try.prog)
  obtain ⟨i0, hi, hz0, hz1, hz2⟩ := info_parts infoSnapC
  obtain ⟨a, c, rfl⟩ : ∃ a c, v = .slice a L.length c := let ⟨_, a, c, e, _⟩ := hL; ⟨a, c, e⟩
  obtain ⟨vb, vo, vc, ev, -, -⟩ := Sl.base hL (by omega)
  cases ev
  have hsl : Sl (w.alloc (.cells #[] 108)) 37 (.slice (some ⟨vb, vo, none⟩) L.length c) L.length (L.flatMap snapCells) := Sl.keep hL ((Keep.refl (fun _ => False) _).alloc _) (fun _ _ _ e => e)
  have hone : ∀ u ∈ L.flatMap snapCells, u.oneCell' = true := by
    intro u hu
    obtain ⟨s, hs, hu⟩ := List.mem_flatMap.1 hu
    have h := snap_one s
    rw [List.all_toArray, List.all_eq_true] at h
    exact h u hu
  have fin : ∀ (v' : Value) (W' : World), W'.ownsRow w.heap.size 108 37 v' (0 + L.length) ([] ++ L.flatMap snapCells) → Keep (fun b => vblk (.slice (some ⟨w.heap.size, 0, none⟩) 0 0) = some b) (w.alloc (.cells #[] 108)) W' → (∀ b, vblk v' = some b → vblk (.slice (some ⟨w.heap.size, 0, none⟩) 0 0) = some b ∨ (w.alloc (.cells #[] 108)).heap.size ≤ b) →
      ∃ g c, v' = .slice (some ⟨g, 0, none⟩) L.length c ∧ W'.ownsRow w.heap.size 108 37 (.slice (some ⟨g, 0, none⟩) L.length c) L.length (L.flatMap snapCells) ∧ Keep (fun _ => False) w W' ∧ w.heap.size ≤ g := by
    intro v' W' hown hk hb
    rw [Nat.zero_add, List.nil_append] at hown
    have hkk : Keep (fun _ => False) w W' := ((Keep.refl (fun _ => False) w).alloc _).trans' hk (fun _ _ e => e) (fun i hi e => by simp [vblk] at e; omega)
    have hh := hown.2
    rcases hh with ⟨e, e2⟩ | ⟨g', c', cur, e, hbase, _⟩
    · exfalso
      have := hown.1
      rw [e2] at this
      have := flat37_len h32
      simp_all
    · exact ⟨g', c', e, by rw [← e]; exact hown, hkk, hbase⟩
  have HSL := Lib.hid hsl; have HONE := Lib.hid hone; have HF := Lib.hid fin
  have h40' : L.length ≤ 39 := by omega
  obtain ⟨n, hn⟩ : ∃ n, n = L.length := ⟨_, rfl⟩
  rw [← hn] at HSL HF h40' ⊢
  clear hL hsl hone fin h0 hn h40 h32
  go_enter Try.func100, Try.ntmps100
  go_wp2_with (at_builtin; refine wpList_append_sl rfl _ _ 93 rfl w.heap.size 108 i0 _ 37 88 Try.underlying93 hi hz0 hz1 hz2 rfl (by decide) _ _ _ rfl (World.ownsRow_made w #[] 0 (Nat.le_refl _) (Nat.zero_le _) rfl) _ n (L.flatMap snapCells) rfl HSL.out HONE.out (by unfold maxLen; omega) (by omega) (by simp) ?_; intro v' w1 hown hg hb; obtain ⟨g, c, e, H⟩ := HF.out v' w1 hown hg hb; subst e; have HH := Lib.hid H; clear H hown hg hb)
  go_ret
  exact ⟨_, _, rfl, HH.out⟩

set_option maxRecDepth 100000 in
theorem snapSort_any {w : World} {v : Value} {L : List SnapR} {P : List Nat} (hL : SnapsAt w v L) (h32 : Snaps32 L) (h40 : L.length < 40) (h0 : 0 < L.length) (hP : Places L P) :
    Calls Try.prog 60 #[v] w fun e w' => ∃ g c, e = .returned (.slice (some ⟨g, 0, none⟩) L.length c) ∧ SnapsAt w' (.slice (some ⟨g, 0, none⟩) L.length c) (rowOf L P) ∧ Keep (fun _ => False) w w' := by
  obtain ⟨a, c, rfl⟩ : ∃ a c, v = .slice a L.length c := let ⟨_, a, c, e, _⟩ := hL; ⟨a, c, e⟩
  have HC := Lib.hid (cloneS_any hL h32 h40 h0)
  have HS := Lib.hid (fun (W : World) (base g c : Nat) (h : W.ownsRow base 108 37 (.slice (some ⟨g, 0, none⟩) L.length c) L.length (L.flatMap snapCells)) => sort_snaps h32 h40 rfl h0 h hP)
  obtain ⟨n, hn⟩ : ∃ n, n = L.length := ⟨_, rfl⟩
  rw [← hn] at HC HS ⊢
  clear hL h32 h40 h0 hP hn
  go_enter Try.func60, Try.ntmps60
  go_wp2_with fail
  refine HC.out.mono ?_
  rintro e w1 ⟨g, c1, rfl, ho, k1, hg⟩
  have HT := Lib.hid (HS.out w1 _ g c1 ho)
  have HK := Lib.hid k1; have HG := Lib.hid hg
  clear ho k1 hg
  go_wp2_with fail
  refine HT.out.mono ?_
  rintro e w2 ⟨rfl, hs, k2⟩
  have HS2 := Lib.hid hs
  have HK2 := Lib.hid (HK.out.trans' k2 (fun _ _ e => e) (fun i hi e => by have := HG.out; omega))
  clear hs k2
  go_wp2
  go_ret
  exact ⟨_, _, rfl, HS2.out, HK2.out⟩
end Go.Proofs.Ytgnigkghkldcfaa
