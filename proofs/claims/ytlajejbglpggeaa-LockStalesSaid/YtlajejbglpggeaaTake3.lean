/-
  lock.Take, lock.Free.
-/
import Derived.Test.YtlajejbglpggeaaTake2
namespace Go.Proofs.Ytlajejbglpggeaa
open Go.RowKit Go.Proofs Go.Lib

/-- a store behind taking a lock, the error's number -/
def takeF (who : Nat) (alone : Bool) (now stale : Int) (s : OS) : OS × Int := if rightT now stale = true then takeC who alone now stale s else (s, 23)

def TakePost (sb : Nat) (S : Nat → Prop) (x : OS × Int) (w : World) (e : Ending) (w' : World) : Prop :=
  e = .returned (.int .i64 x.2) ∧ ∃ S', St w' sb (.pointer none) S' x.1 ∧ Turn S S' w w'

theorem rightT_now {now stale : Int} (h : rightT now stale = true) : 0 ≤ now ∧ now ≤ 1125899906842624 ∧ 1 ≤ stale := by
  unfold rightT at h
  simp at h
  omega

set_option maxRecDepth 100000 in
set_option maxHeartbeats 2000000 in
theorem take_any {w : World} {sb : Nat} {S : Nat → Prop} {who : Nat} {alone : Bool} {now stale : Int} {s : OS} (hst : St w sb (.pointer none) S s) (hleft : s.left = -1) (hwho : who < 18446744073709551616) (ho : s.ops ≤ 4000000000000000000) :
    Calls Try.prog 11 #[.pointer (some ⟨sb, 0, none⟩), .int .u64 who, .bool alone, .int .i64 now, .int .i64 stale] w (TakePost sb S (takeF who alone now stale s) w) := by
  have hmf : ∀ (fn : Fn) (first cap : Array Value) (w : World), (Instr.makeFunc fn first cap).run Try.prog w = .ok (.func fn first cap) w := fun _ _ _ _ => rfl
  obtain ⟨W5, hW5⟩ : ∃ W, W = ((((w.alloc (.cells #[.pointer (some ⟨sb, 0, none⟩)] 28)).alloc (.cells #[.int .u64 who] 22)).alloc (.cells #[.bool alone] 4)).alloc (.cells #[.int .i64 now] 2)).alloc (.cells #[.int .i64 stale] 2) := ⟨_, rfl⟩
  have hz5 : W5.heap.size = w.heap.size + 5 := by rw [hW5]; simp
  have k5 : Keep (fun _ => False) w W5 := by rw [hW5]; exact (((((Keep.refl _ w).alloc _).alloc _).alloc _).alloc _).alloc _
  have hbox : TkBox w.heap.size sb who alone now stale W5 := by
    rw [hW5]
    refine ⟨?_, ?_, ?_, ?_, ?_⟩
    · exact alloc_blk (alloc_blk (alloc_blk (alloc_blk (alloc_new _ _) _) _) _) _
    · have := alloc_new (w.alloc (.cells #[.pointer (some ⟨sb, 0, none⟩)] 28)) (.cells #[.int .u64 who] 22)
      rw [World.size_alloc] at this
      exact alloc_blk (alloc_blk (alloc_blk this _) _) _
    · have := alloc_new ((w.alloc (.cells #[.pointer (some ⟨sb, 0, none⟩)] 28)).alloc (.cells #[.int .u64 who] 22)) (.cells #[.bool alone] 4)
      rw [World.size_alloc, World.size_alloc] at this
      exact alloc_blk (alloc_blk this _) _
    · have := alloc_new (((w.alloc (.cells #[.pointer (some ⟨sb, 0, none⟩)] 28)).alloc (.cells #[.int .u64 who] 22)).alloc (.cells #[.bool alone] 4)) (.cells #[.int .i64 now] 2)
      rw [World.size_alloc, World.size_alloc, World.size_alloc] at this
      exact alloc_blk this _
    · have := alloc_new ((((w.alloc (.cells #[.pointer (some ⟨sb, 0, none⟩)] 28)).alloc (.cells #[.int .u64 who] 22)).alloc (.cells #[.bool alone] 4)).alloc (.cells #[.int .i64 now] 2)) (.cells #[.int .i64 stale] 2)
      rw [World.size_alloc, World.size_alloc, World.size_alloc, World.size_alloc] at this
      exact this
  have H5 := Lib.hid hW5; have K5 := Lib.hid k5; have HST := Lib.hid (hst.keep0 k5); have HST0 := Lib.hid hst; have HBX := Lib.hid hbox; have HZ := Lib.hid hz5
  obtain ⟨R, hR⟩ : ∃ R, R = rightT now stale := ⟨_, rfl⟩
  have HRI := Lib.hid (fun W => lkright_any now stale W)
  rw [← hR] at HRI
  have HR := Lib.hid hR
  have HL := Lib.hid hleft; have HW := Lib.hid hwho; have HO := Lib.hid ho
  obtain ⟨y0, y1, y2, y3, y4⟩ := hbox.cells
  rw [hW5] at y3 y4
  clear hst hleft hwho ho hW5 hz5 k5 hbox hR y0 y1 y2
  cases R
  · go_enter Try.func11, Try.ntmps11
    go_wp2_with fail
    refine (HRI.out _).mono ?_
    rintro e w1 ⟨rfl, rfl⟩
    go_wp2
    go_ret
    rw [← H5.out]
    have ht : takeF who alone now stale s = (s, 23) := by unfold takeF; rw [if_neg (by rw [← HR.out]; decide)]
    rw [ht]
    exact ⟨rfl, S, HST.out, K5.out.mono (fun _ _ e => e.elim), fun _ => .inl⟩
  · have hn := rightT_now HR.out.symm
    have HN := Lib.hid hn
    clear hn
    have hE1 := enters_of Try.func22 (by kernel_rfl) rfl
    have kr := runW_keep W5
    have hC := take1_any (HST.out.keep0 kr) HL.out (HBX.out.keep kr (fun _ _ _ e => e)) (fun x e => by have := HST0.out.lt x e; omega) HW.out ⟨HN.out.1, HN.out.2.1⟩ HO.out
    have ht : takeF who alone now stale s = takeC who alone now stale s := by unfold takeF; rw [if_pos HR.out.symm]
    obtain ⟨x, hx⟩ : ∃ x, x = takeC who alone now stale s := ⟨_, rfl⟩
    rw [← hx] at hC ht
    have HSL := HST0.out.lt
    have HRUN := Lib.hid (run_any ⟨22, #[], #[.pointer (some ⟨w.heap.size, 0, none⟩), .pointer (some ⟨w.heap.size + 1, 0, none⟩), .pointer (some ⟨w.heap.size + 3, 0, none⟩), .pointer (some ⟨w.heap.size + 4, 0, none⟩), .pointer (some ⟨w.heap.size + 2, 0, none⟩)]⟩ hE1 W5 _ (by rfl)
      (fun w' => x.2 = 0 ∧ ∃ S', St w' sb (.pointer none) S' x.1 ∧ Turn S S' (runW W5) w') (fun k w' => k = x.2 ∧ ∃ S', St w' sb (.pointer none) S' x.1 ∧ Turn S S' (runW W5) w')
      (fun w' h => by obtain ⟨_, S', _, t⟩ := h; exact t.keep.mono (fun i _ e => by have := HSL i e; have := HZ.out; omega))
      (fun k w' h => by obtain ⟨_, S', _, t⟩ := h; exact t.keep.mono (fun i _ e => by have := HSL i e; have := HZ.out; omega))
      (hC.mono fun e w' h => by
        obtain ⟨h1, h2⟩ := h
        rcases h1 with ⟨rfl, h1⟩ | rfl
        · exact .inl ⟨rfl, h1, h2⟩
        · exact .inr ⟨_, rfl, rfl, h2⟩))
    have HT := Lib.hid ht
    have HKR := Lib.hid (K5.out.trans kr)
    clear hE1 kr hC ht hx HSL
    dsimp only [Clo.val] at HRUN
    go_enter Try.func11, Try.ntmps11
    go_wp2_with fail
    refine (HRI.out _).mono ?_
    rintro e w1 ⟨rfl, rfl⟩
    go_wp2_with fail
    rw [← H5.out]
    refine HRUN.out.mono ?_
    rintro e w7 ⟨w6, k, rfl, h6, k7⟩
    have h6' : k = x.2 ∧ ∃ S', St w6 sb (.pointer none) S' x.1 ∧ Turn S S' (runW W5) w6 := by
      rcases h6 with ⟨rfl, h1, h2⟩ | ⟨h1, h2⟩
      · exact ⟨h1.symm, h2⟩
      · exact ⟨h1, h2⟩
    obtain ⟨rfl, S', h8, t8⟩ := h6'
    have hns : ¬ S' W5.heap.size := fun e => by
      rcases t8.grow _ e with e | e
      · have := HST0.out.lt _ e; have := HZ.out; omega
      · have : (runW W5).heap.size = W5.heap.size + 1 := by unfold runW; simp
        omega
    have hfin : TakePost sb S x w (.returned (.int .i64 x.2)) w7 := ⟨rfl, S', h8.keep k7 (fun b e => by rw [e]; exact hns), (HKR.out.trans' t8.keep (fun _ _ e => e.elim) (fun _ _ e => e)).trans' k7 (fun _ _ e => e) (fun i hi e => by have := HZ.out; omega), fun b e => (t8.grow b e).imp id (fun e => Nat.le_trans HKR.out.size e)⟩
    have HF := Lib.hid hfin
    clear hfin h6 h8 t8 hns k7
    go_wp2
    go_ret
    rw [HT.out]
    exact HF.out

theorem free_any {w : World} {sb : Nat} {S : Nat → Prop} {who : Nat} {s : OS} (hst : St w sb (.pointer none) S s) (hleft : s.left = -1) (hwho : who < 18446744073709551616) (ho : s.ops < 4611686018427387904) :
    Calls Try.prog 12 #[.pointer (some ⟨sb, 0, none⟩), .int .u64 who] w fun e w' => e = .returned (.int .i64 (s.getCode (nameB who))) ∧ St w' sb (.pointer none) S (s.drop (nameB who)) ∧ Turn S S w w' := by
  have hnm : (⟨(nameB who).toArray⟩ : ByteArray).size ≤ maxLen := by show (nameB who).toArray.size ≤ maxLen; rw [List.size_toArray, nameB_length]; decide
  have HD := Lib.hid (fun (W : World) (k : Keep (fun _ => False) w W) => (hst.keep0 k).drop (by rw [hleft]; decide) ho ⟨(nameB who).toArray⟩ hnm)
  have HN := Lib.hid (fun W => lkname_any who hwho W)
  unfold DropSt at HD
  dsimp only at HD
  obtain ⟨c, hc⟩ : ∃ c, c = s.getCode (nameB who) := ⟨_, rfl⟩
  obtain ⟨s2, hs2⟩ : ∃ x, x = s.drop (nameB who) := ⟨_, rfl⟩
  rw [← hc, ← hs2] at HD ⊢
  clear hst hleft hwho ho hnm hc hs2
  go_enter Try.func12, Try.ntmps12
  go_wp2_with fail
  refine (HN.out _).mono ?_
  rintro e w1 ⟨rfl, k1⟩
  have K1 := Lib.hid k1
  clear k1
  go_wp2_with fail
  refine (HD.out _ K1.out).mono ?_
  rintro e w2 ⟨rfl, h2, t2⟩
  have H2 := Lib.hid h2; have T2 := Lib.hid (Turn.after0 K1.out t2)
  clear h2 t2
  go_wp2
  go_ret
  exact ⟨rfl, H2.out, T2.out⟩
end Go.Proofs.Ytlajejbglpggeaa
