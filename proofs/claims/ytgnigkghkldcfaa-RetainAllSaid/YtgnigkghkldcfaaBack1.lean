/-
  slices.Backward at []int: its iterator's contract: the places and what lies there, from the last to the first.
-/
import Derived.Test.YtgnigkghkldcfaaDays
import Derived.Test.YtgnigkghkldcfaaAllIter
namespace Go.Proofs.Ytgnigkghkldcfaa
open Go.RowKit Go.Proofs Go.Lib Go.Maps Go.Sort Go.Shelf

theorem backward_any (a : Option Addr) (n c : Nat) (w : World) : Calls Try.prog 86 #[.slice a n c] w fun e w' => e = .returned (.func (.func 117) #[] #[.pointer (some ⟨w.heap.size, 0, none⟩)]) ∧ w' = w.alloc (.cells #[.slice a n c] 45) := by
  have hmf : ∀ (fn : Fn) (first cap : Array Value) (w : World), (Instr.makeFunc fn first cap).run Try.prog w = .ok (.func fn first cap) w := fun _ _ _ _ => rfl
  go_enter Try.func86, Try.ntmps86
  go_wp2
  go_ret
  exact ⟨rfl, rfl⟩

abbrev encB (p : Nat × Nat) : Array Value := #[.int .i64 p.1, .int .i64 p.2]
def backs (P : List Nat) : List (Nat × Nat) := ((List.range P.length).map (fun k => (k, P[k]!))).reverse
theorem backs_len (P : List Nat) : (backs P).length = P.length := by simp [backs]
theorem backs_at {P : List Nat} {m : Nat} (h : m < P.length) : (backs P)[m]? = some (P.length - 1 - m, P[P.length - 1 - m]!) := by
  unfold backs
  rw [List.getElem?_reverse (by simpa using h)]
  simp [show P.length - 1 - m < P.length by omega]

theorem back1_iter (n : Nat) (bp : Nat) (r : Value) (P : List Nat) (B : Nat → Prop) (W : World) (hr : Sl W 1 r P.length (natsV P)) (hB : ∀ b, vblk r = some b → B b) (h40 : P.length < 40)
    (hbp : W.heap[bp]? = some (.cells #[r] 45 (0, 0))) :
    IterAt Try.prog n 117 #[.pointer (some ⟨bp, 0, none⟩)] encB (backs P) (fun k => k = bp ∨ B k) W := by
  intro l J Jx hJ0 hY
  have hJ := hJ0 W (fun _ => False) (Below.refl _ W) (fun k hk => hk.elim)
  obtain ⟨N, hN⟩ : ∃ N : Nat, N = P.length := ⟨_, rfl⟩
  have hs := hr
  obtain ⟨_, ra, rc, er, r1, r2, _, r4⟩ := hs
  rw [← hN] at er r1 h40
  subst er
  unfold maxLen at r2
  have hcell : ∀ wr : World, (∀ b, (b = bp ∨ B b) → wr.heap[b]? = W.heap[b]?) → wr.cell? ⟨bp, 0, none⟩ = some (.slice ra N rc) ∧ ∀ k, k < N → ∃ b o, ra = some ⟨b, o, none⟩ ∧ wr.cell? ⟨b, o + k, none⟩ = some (.int .i64 P[k]!) := by
    intro wr hw
    refine ⟨by rw [cell_blk ((hw bp (.inl rfl)).trans hbp)]; rfl, fun k hk => ?_⟩
    obtain ⟨b, o, rfl, h⟩ := r4 (by omega)
    refine ⟨b, o, rfl, ?_⟩
    have h1 := h k (by omega)
    have h2 : wr.heap[b]? = W.heap[b]? := hw b (.inr (hB b rfl))
    rw [show wr.cell? ⟨b, o + k, none⟩ = W.cell? ⟨b, o + k, none⟩ by simp [World.cell?, h2], h1]
    unfold natsV
    rw [List.getElem?_map, List.getElem?_eq_getElem (by omega), getElem!_pos P k (by omega)]
    rfl
  have c1 := (hcell W (fun _ _ => rfl)).1
  have HC := Lib.hid hcell; have HY := Lib.hid hY; have HN := Lib.hid hN
  clear hcell hY hN hJ0 hr hB hbp r4
  refine callsIn_of_wp Try.func117 rfl trivial ?_ rfl
  simp only [Try.ntmps117, List.size_toArray, List.length_cons, List.length_nil, Nat.reduceAdd, Nat.reduceSub, Array.replicate_succ, Array.replicate_zero, List.push_toArray, List.append_toArray, List.nil_append, List.cons_append]
  gi_wp2
  clear c1
  gi_loopw [3] (fun v3 wr => ∃ m : Nat, v3 = .int .i64 ((N : Int) - 1 - m) ∧ m ≤ N ∧ J (fun _ => False) ((backs P).take m) wr ∧ (∀ b, (b = bp ∨ B b) → wr.heap[b]? = W.heap[b]?)) (fun v3 _ => (intOf v3 + 1).toNat)
  case atStart => exact ⟨0, by go_num, Nat.zero_le _, hJ, fun _ _ => rfl⟩
  case round =>
    obtain ⟨m, rfl, hm, hJr, hBr⟩ := hrel
    by_cases hlt : m < N
    · obtain ⟨k, hk⟩ : ∃ k, k = N - 1 - m := ⟨_, rfl⟩
      have hz : (N : Int) - 1 - m = k := by omega
      obtain ⟨c0, c2⟩ := HC.out wr hBr
      obtain ⟨bb, oo, rfl, c3⟩ := c2 k (by omega)
      have htake : (backs P).take (m + 1) = (backs P).take m ++ [(k, P[k]!)] := take_snoc (by rw [backs_at (by have := HN.out; omega), ← HN.out, hk])
      obtain ⟨fn, tmps, assign, body, hy, hR⟩ := HY.out (fun _ => False) ((backs P).take m) (k, P[k]!) wr hJr (by rw [← htake]; exact List.take_prefix _ _)
      obtain ⟨pk, hpk⟩ : ∃ pk, pk = P[k]! := ⟨_, rfl⟩
      rw [← hpk] at hy c3 htake hR
      dsimp only [encB] at hy
      rw [hz]
      have HT := Lib.hid htake; have HBR := Lib.hid hBr; have HZ := Lib.hid hz; have HK := Lib.hid hk
      have k0 : (0 : Int) ≤ k := by omega
      have k1 : (k : Int) < N := by omega
      clear htake hBr hJr hz hk c2 hpk
      gi_wp2
      refine ⟨fun h => by simp [Fence.wide] at h, ?_⟩
      refine hR.mono ?_
      rintro e W3 (⟨rfl, hJ3, hk3⟩ | ⟨rfl, hx3⟩)
      · gi_wp2
        go_roundw
        case rel => exact ⟨m + 1, by have := HZ.out; go_num, by omega, by rw [HT.out]; exact hJ3, fun b hb => (hk3.2 b (.inr hb)).trans (HBR.out b hb)⟩
        case measure => simp [intOf] <;> omega
      · gi_wp2
        refine bodyPost_ret (results_none rfl _ _ _) rfl ?_
        exact ⟨⟨_, rfl⟩, .inr ⟨_, by rw [← HT.out]; exact List.take_prefix _ _, hx3⟩⟩
    · have hmN : (N : Int) - 1 - m = -1 := by omega
      have hmN2 : m = N := by omega
      rw [hmN]
      have HK := Lib.hid hmN2; clear hmN hmN2
      gi_wp2
      go_end0
      refine ⟨⟨_, rfl⟩, .inl ⟨fun _ => False, ?_⟩⟩
      have e1 : (backs P).take m = backs P := List.take_of_length_le (by rw [backs_len, ← HN.out, HK.out]; exact Nat.le_refl _)
      rw [e1] at hJr
      exact hJr
end Go.Proofs.Ytgnigkghkldcfaa
