/-
  append onto a row of the call's own, where the new row lies; and a boxed slice that is gathered. Over any program.
-/
import Derived.Test.YtlajejbglpggeaaBase0
import Derived.Maps.AppendAt
import Derived.OwnWalkIn
namespace Go.Proofs.Ytlajejbglpggeaa
open Go.RowKit

section
variable {P : Program} (w : World) {ops : Array Oper} {rest : List Oper} {o : Oper} {a : Act} {Q : Exit → Act → World → Prop}
    (hg : o.guard = none) (s x : Operand) (t : TypeId) (hop : o.op = Op.call { callee := Callee.builtin Builtin.append, args := #[s, x], argTypes := #[t, t] })
    (base : Nat) (e : TypeId) (i : TypeInfo) (z : Value) (size bytes : Nat) (h1 : P.underlying t = some (.slice e)) (h2 : P.info? e = some i) (h3 : i.zero = some z) (h4 : i.size = size) (h5 : i.bytes = bytes) (h6 : z.cells.size = size) (h7 : 0 < size)
    (v : Value) (k : Nat) (xs : List Value) (hs : a.eval s = v) (hown : w.ownsRow base e size v k xs) (ad : Addr) (m c : Nat) (news : List Value) (hx : a.eval x = .slice (some ad) m c) (hn : news.length = m * size)
    (hc : ∀ j u, news[j]? = some u → w.cell? (ad.add j) = some u) (h1c : ∀ u ∈ news, u.oneCell' = true) (b1 : k + m ≤ maxLen) (b2 : (k + m) * bytes ≤ 140737488355328) (b3 : base ≤ w.heap.size) (hm : 0 < m)
include h1 h2 h3 h4 h5 h6 h7 hown hn hc h1c b1 b2 b3 hm

theorem run_append_row (ty : TypeId) : ∃ g cap w', (Builtin.append_ #[t, t] ty #[v, .slice (some ad) m c]).run P w = .ok (.slice (some ⟨g, 0, none⟩) (k + m) cap) w' ∧ w'.ownsRow base e size (.slice (some ⟨g, 0, none⟩) (k + m) cap) (k + m) (xs ++ news) ∧
    w.grownBy w' v.ownBlock ∧ (v.ownBlock = some g ∨ g = w.heap.size) := by
  obtain ⟨v', w', hrun, r1, r2, r3, r4⟩ := run_append_own_at (P := P) w base t ty e i z size bytes h1 h2 h3 h4 h5 h6 h7 v k xs hown ad m c news hn hc h1c b1 b2 b3
  rcases r1.2 with ⟨_, e2⟩ | ⟨g, cap, cur, rfl, _⟩
  · omega
  · refine ⟨g, cap, w', hrun, r1, r2, ?_⟩
    rcases r4 with r4 | r4
    · exact .inl r4.symm
    · right; simpa [Value.ownBlock] using r4

include hg hop hs hx in
theorem wpList_append_row (hK : ∀ g cap w', w'.ownsRow base e size (.slice (some ⟨g, 0, none⟩) (k + m) cap) (k + m) (xs ++ news) → w.grownBy w' v.ownBlock → (v.ownBlock = some g ∨ g = w.heap.size) → wpList P ops Q rest (a.put o.dst (.slice (some ⟨g, 0, none⟩) (k + m) cap)) w') :
    wpList P ops Q (o :: rest) a w := by
  refine wpList_plain hg fun K hK' => ?_
  obtain ⟨g, cap, w', hrun, r1, r2, r3⟩ := run_append_row w t base e i z size bytes h1 h2 h3 h4 h5 h6 h7 v k xs hown ad m c news hn hc h1c b1 b2 b3 hm o.type
  unfold Oper.wp execOp
  simp only [hop, resolve, invoke, builtin, Sem.run_bind, Sem.run_pure, Result.andThen_ok, List.map_toArray, List.map_cons, List.map_nil, hs, hx, hrun]
  exact hK' _ _ (hK g cap w' r1 r2 r3)

include hg hop hs hx in
theorem wpListIn_append_row {F : Fence} {n : Nat} (hK : ∀ g cap w', w'.ownsRow base e size (.slice (some ⟨g, 0, none⟩) (k + m) cap) (k + m) (xs ++ news) → w.grownBy w' v.ownBlock → (v.ownBlock = some g ∨ g = w.heap.size) → wpListIn F n P ops Q rest (a.put o.dst (.slice (some ⟨g, 0, none⟩) (k + m) cap)) w') :
    wpListIn F n P ops Q (o :: rest) a w := by
  refine wpListIn_plain hg fun K hK' => ?_
  obtain ⟨g, cap, w', hrun, r1, r2, r3⟩ := run_append_row w t base e i z size bytes h1 h2 h3 h4 h5 h6 h7 v k xs hown ad m c news hn hc h1c b1 b2 b3 hm o.type
  unfold Oper.wpIn
  refine ⟨?_, ?_⟩
  · simp [Oper.about, hop, resolve, Target.leads, Sem.run_pure]
  · rw [Oper.semAt_plain F _ _ (by rw [hop]; intro c hc'; cases hc')]
    simp [execOp, hop, resolve, invoke, builtin, hs, hx, hrun, Result.andThen]
    exact hK' _ _ (hK g cap w' r1 r2 r3)
end

theorem ownBlock_vblk {v : Value} {g : Nat} (h : v.ownBlock = some g) : vblk v = some g := by
  unfold Value.ownBlock at h
  split at h
  · exact h
  · cases h
theorem vblk_own {w : World} {base : Nat} {e : TypeId} {k : Nat} {v : Value} {n : Nat} {xs : List Value} (h : w.ownsRow base e k v n xs) : v.ownBlock = vblk v := by
  rcases h.2 with ⟨rfl, _⟩ | ⟨g, cap, cur, rfl, _⟩ <;> rfl

/-- 'out = append(out, x)', out in a box: what is behind it. -/
theorem coll_step {W W1 : World} {B base : Nat} {t e : TypeId} {k n n' : Nat} {v : Value} {xs ys : List Value} {o : Obj} {g cap : Nat} (hbox : W.heap[B]? = some (.cells #[v] t (0, 0))) (hB : B < base) (hown : W.ownsRow base e k v n xs)
    (hg : (W.alloc o).grownBy W1 v.ownBlock) (hown' : W1.ownsRow base e k (.slice (some ⟨g, 0, none⟩) n' cap) n' ys) (hloc : v.ownBlock = some g ∨ g = (W.alloc o).heap.size) :
    W1.heap[B]? = some (.cells #[v] t (0, 0)) ∧
    (W1.setCell ⟨B, 0, none⟩ (.slice (some ⟨g, 0, none⟩) n' cap)).heap[B]? = some (.cells #[.slice (some ⟨g, 0, none⟩) n' cap] t (0, 0)) ∧
    (W1.setCell ⟨B, 0, none⟩ (.slice (some ⟨g, 0, none⟩) n' cap)).ownsRow base e k (.slice (some ⟨g, 0, none⟩) n' cap) n' ys ∧
    Keep (fun i => i = B ∨ vblk v = some i) W (W1.setCell ⟨B, 0, none⟩ (.slice (some ⟨g, 0, none⟩) n' cap)) ∧ (vblk v = some g ∨ W.heap.size ≤ g) := by
  have hbl : ∀ j, v.ownBlock = some j → base ≤ j ∧ j < W.heap.size := hown.lt
  have hkk : Keep (fun i => vblk v = some i) W W1 := ((Keep.refl _ W).alloc o).trans' (Keep.of_grownBy hg) (fun _ _ e => e) (fun i _ e => ownBlock_vblk e)
  have hb1 : W1.heap[B]? = some (.cells #[v] t (0, 0)) := hkk.heap hbox (fun e => by
    rw [← vblk_own hown] at e
    have := (hbl _ e).1; omega)
  refine ⟨hb1, by rw [set_blk hb1]; simp, ownsRow_setCell_below hown' (by exact hB) _, (hkk.mono (fun _ _ e => .inr e)).setCell (p := ⟨B, 0, none⟩) (fun _ => .inl rfl) _, ?_⟩
  rcases hloc with h | h
  · exact .inl (ownBlock_vblk h)
  · right; rw [h]; simp
end Go.Proofs.Ytlajejbglpggeaa
