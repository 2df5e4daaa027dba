/-
  A region that draws its order, by an invariant; and from a walk outside every fence into a round of a range over a function. Over any program.
-/
import Derived.Test.YtlajejbglpggeaaColl
import Derived.Test.YtlajejbglpggeaaRange
import Derived.Orders
import Derived.OrdersIn
import Derived.RangeFuncCalls
namespace Go.Proofs.Ytlajejbglpggeaa
open Go.RowKit Go.Proofs

section
variable {P : Program} {md : Region.Mode} {ops : Array Oper} {Q : Exit → Act → World → Prop}

/-- how many have not come up -/
def unlisted (l : Array Bool) : Nat := (l.toList.filter (!·)).length

theorem unlisted_set {l : Array Bool} {i : Nat} (h : l.getD i true = false) : unlisted (l.setIfInBounds i true) + 1 = unlisted l := by
  unfold unlisted
  obtain ⟨l⟩ := l
  have hi : l[i]? = some false := by
    rw [Array.getD_eq_getD_getElem?] at h
    rw [List.getElem?_toArray] at h
    cases hl : l[i]? with
    | none => rw [hl] at h; cases h
    | some b => rw [hl] at h; simp at h; rw [h]
  rw [Array.toList_setIfInBounds]
  show ((l.set i true).filter (!·)).length + 1 = (l.filter (!·)).length
  clear h
  induction l generalizing i with
  | nil => simp at hi
  | cons b l ih =>
    cases i with
    | zero => simp at hi; subst hi; simp
    | succ i =>
      simp only [List.getElem?_cons_succ] at hi
      have := ih hi
      cases b <;> simp [List.set_cons_succ] at this ⊢ <;> omega

/-- an operation, carried out -/
def opStep (P : Program) (ops : Array Oper) (Q : Exit → Act → World → Prop) (i : Nat) (K : Act → World → Prop) (a : Act) (w : World) : Prop :=
  ∀ o, ops[i]? = some o → if Region.wanted o (yielded ops a.tmps) = true then o.wp P a w K Q else K (a.put o.dst undef) w

theorem opStep_step {i : Nat} {o : Oper} {K : Act → World → Prop} {a : Act} {w : World} (ho : ops[i]? = some o)
    (h : ∀ K' : Act → World → Prop, (∀ a w, K a w → K' a w) → if Region.wanted o (yielded ops a.tmps) = true then Oper.wp P o a w K' Q else K' (a.put o.dst undef) w) : opStep P ops Q i K a w := by
  intro o' ho'
  rw [ho] at ho'; cases ho'
  exact h K (fun _ _ h => h)

theorem opStep_wpOp {i : Nat} {K : Act → World → Prop} {a : Act} {w : World} (hi : ops[i]?.isSome = true) (h : opStep P ops Q i K a w) : wpOp P ops Q i K a w := by
  obtain ⟨o, ho⟩ := Option.isSome_iff_exists.1 hi
  have h := h o ho
  unfold wpOp
  rw [ho]
  dsimp only
  split
  · rename_i hw; rw [if_pos hw] at h; exact .inl h
  · rename_i hw; rw [if_neg hw] at h; exact h

theorem ready_some {listed : Array Bool} {i : Nat} (h : i ∈ Region.ready md ops listed) : ops[i]?.isSome = true := by
  obtain ⟨_, o, ho, _⟩ := mem_ready.1 h
  rw [ho]; rfl

theorem wpAny_inv (I : Array Bool → Act → World → Prop)
    (hs : ∀ listed a w, I listed a w → ∀ i, i ∈ Region.ready md ops listed → opStep P ops Q i (I (listed.setIfInBounds i true)) a w)
    (hd : ∀ listed a w, I listed a w → Region.ready md ops listed = [] → Q .normal a w) :
    ∀ (fuel : Nat) (listed : Array Bool) (a : Act) (w : World), I listed a w → unlisted listed ≤ fuel → wpAny P md ops Q fuel listed a w
  | 0, listed, a, w, h, hf => by
    have : Region.ready md ops listed = [] := by
      cases hr : Region.ready md ops listed with
      | nil => rfl
      | cons i r =>
        have hi : i ∈ Region.ready md ops listed := by rw [hr]; simp
        have := unlisted_set (mem_ready.1 hi).1
        omega
    exact ⟨this, hd listed a w h this⟩
  | fuel + 1, listed, a, w, h, hf => by
    refine ⟨fun hr => hd listed a w h hr, fun i hi => ?_⟩
    have hu := unlisted_set (mem_ready.1 hi).1
    exact wpOp_mono (fun a' w' h' => wpAny_inv I hs hd fuel _ a' w' h' (by omega)) (opStep_wpOp (ready_some hi) (hs listed a w h i hi))

theorem unlisted_none (n : Nat) : unlisted (Array.replicate n false) = n := by
  unfold unlisted
  simp

theorem region_inv (I : Array Bool → Act → World → Prop) {id : Nat} {a : Act} {w : World} (hm : P.follows .mixedOrders = true) (h0 : I (Array.replicate ops.size false) a w.drew)
    (hs : ∀ listed a w, I listed a w → ∀ i, i ∈ Region.ready .any ops listed → opStep P ops Q i (I (listed.setIfInBounds i true)) a w)
    (hd : ∀ listed a w, I listed a w → Region.ready .any ops listed = [] → Q .normal a w) : (Code.region id ops true).wp P Q a w :=
  wp_region_any hm (wpAny_inv I hs hd _ _ _ _ h0 (by rw [unlisted_none]; exact Nat.le_refl _))

/-- The same, where the invariant speaks of the frame that the region begins with. -/
theorem region_inv' (J : Act → Array Bool → Act → World → Prop) {id : Nat} {a : Act} {w : World} (hm : P.follows .mixedOrders = true) (h0 : J a (Array.replicate ops.size false) a w.drew)
    (hs : ∀ listed a' w, J a listed a' w → ∀ i, i ∈ Region.ready .any ops listed → opStep P ops Q i (J a (listed.setIfInBounds i true)) a' w)
    (hd : ∀ listed a' w, J a listed a' w → Region.ready .any ops listed = [] → Q .normal a' w) : (Code.region id ops true).wp P Q a w :=
  region_inv (J a) hm h0 hs hd

theorem own_keep {F : Nat → Prop} {w w' : World} {base : Nat} {e : TypeId} {k : Nat} {v : Value} {n : Nat} {xs : List Value} (h : w.ownsRow base e k v n xs) (hk : Keep F w w') (hF : ∀ g, vblk v = some g → ¬ F g) : w'.ownsRow base e k v n xs := by
  obtain ⟨h1, h2⟩ := h
  refine ⟨h1, ?_⟩
  rcases h2 with h2 | ⟨g, cap, cur, e1, hg, hh, r⟩
  · exact .inl h2
  · exact .inr ⟨g, cap, cur, e1, hg, hk.heap hh (hF g (by rw [e1]; rfl)), r⟩
theorem own_slice {w : World} {base : Nat} {e : TypeId} {k : Nat} {v : Value} {n : Nat} {xs : List Value} (h : w.ownsRow base e k v n xs) : ∃ a c, v = .slice a n c := by
  rcases h.2 with ⟨rfl, rfl⟩ | ⟨g, cap, cur, rfl, _⟩
  · exact ⟨_, _, rfl⟩
  · exact ⟨_, _, rfl⟩
theorem own_lt {w : World} {base : Nat} {e : TypeId} {k : Nat} {v : Value} {n : Nat} {xs : List Value} (h : w.ownsRow base e k v n xs) : ∀ g, vblk v = some g → base ≤ g ∧ g < w.heap.size := fun g e => h.lt g (by rw [vblk_own h]; exact e)

/-- append, as an operation of a region that draws -/
theorem oper_append_row (w : World) {o : Oper} {a : Act} {K : Act → World → Prop} (s x : Operand) (t : TypeId) (hop : o.op = Op.call { callee := Callee.builtin Builtin.append, args := #[s, x], argTypes := #[t, t] })
    (base : Nat) (e : TypeId) (i : TypeInfo) (z : Value) (size bytes : Nat) (h1 : P.underlying t = some (.slice e)) (h2 : P.info? e = some i) (h3 : i.zero = some z) (h4 : i.size = size) (h5 : i.bytes = bytes) (h6 : z.cells.size = size) (h7 : 0 < size)
    (v : Value) (k : Nat) (xs : List Value) (hs : a.eval s = v) (hown : w.ownsRow base e size v k xs) (ad : Addr) (m c : Nat) (news : List Value) (hx : a.eval x = .slice (some ad) m c) (hn : news.length = m * size)
    (hc : ∀ j u, news[j]? = some u → w.cell? (ad.add j) = some u) (h1c : ∀ u ∈ news, u.oneCell' = true) (b1 : k + m ≤ maxLen) (b2 : (k + m) * bytes ≤ 140737488355328) (b3 : base ≤ w.heap.size) (hm : 0 < m)
    (hK : ∀ g cap w', w'.ownsRow base e size (.slice (some ⟨g, 0, none⟩) (k + m) cap) (k + m) (xs ++ news) → Keep (fun i => vblk v = some i) w w' → (vblk v = some g ∨ g = w.heap.size) → K (a.put o.dst (.slice (some ⟨g, 0, none⟩) (k + m) cap)) w') :
    o.wp P a w K Q := by
  obtain ⟨g, cap, w', hrun, r1, r2, r3⟩ := run_append_row w t base e i z size bytes h1 h2 h3 h4 h5 h6 h7 v k xs hown ad m c news hn hc h1c b1 b2 b3 hm o.type
  unfold Oper.wp execOp
  simp only [hop, resolve, invoke, builtin, Sem.run_bind, Sem.run_pure, Result.andThen_ok, List.map_toArray, List.map_cons, List.map_nil, hs, hx, hrun]
  exact hK g cap w' r1 ((Keep.of_grownBy r2).mono (fun _ _ e => ownBlock_vblk e)) (r3.imp (fun e => ownBlock_vblk e) id)

/-! ### into a round -/
theorem rowsIn_wide {row : String} {args : Array Value} {w : World} {R : Value → World → Prop} {l n : Nat} (h : Rows P row args w R) : RowsIn (Fence.wide.inRound l) n P row args w R :=
  fun c cs _ => let ⟨v, w', r, s⟩ := h c cs; ⟨v, w', r, stepsIn_wide.2 s⟩

theorem wpIn_of_wp {o : Oper} {l n : Nat} {a : Act} {w : World} {K : Act → World → Prop} (ho : ∀ c, o.op ≠ .defer c) (h : o.wp P a w K Q) : o.wpIn (Fence.wide.inRound l) n P a w K Q := by
  unfold Oper.wpIn
  refine ⟨fun f _ => trivial, ?_⟩
  rw [Oper.semAt_eq _ _ _ ho]
  unfold Oper.wp at h
  generalize (execOp a.eval o).run P w = r at *
  cases r with
  | ok x w' =>
    cases x <;> simp only [Oper.upon, Oper.uponIn] at h ⊢ <;>
      first
        | exact h
        | exact h.elim
        | exact ⟨fun e => by simp [Fence.wide] at e, CallsIn.inRound l (callsIn_wide.2 h)⟩
        | exact ⟨fun e => by simp [Fence.wide] at e, rowsIn_wide h⟩
  | halt x w' => cases x <;> simp only [Oper.upon, Oper.uponIn] at h ⊢ <;> exact h

theorem wpAnyIn_inv {l n : Nat} (I : Array Bool → Act → World → Prop) (hops : ∀ (i : Nat) (o : Oper) (c : _), ops[i]? = some o → o.op ≠ .defer c)
    (hs : ∀ listed a w, I listed a w → ∀ i, i ∈ Region.ready md ops listed → opStep P ops Q i (I (listed.setIfInBounds i true)) a w)
    (hd : ∀ listed a w, I listed a w → Region.ready md ops listed = [] → Q .normal a w) :
    ∀ (fuel : Nat) (listed : Array Bool) (a : Act) (w : World), I listed a w → unlisted listed ≤ fuel → wpAnyIn (Fence.wide.inRound l) n P md ops Q fuel listed a w
  | 0, listed, a, w, h, hf => by
    have : Region.ready md ops listed = [] := by
      cases hr : Region.ready md ops listed with
      | nil => rfl
      | cons i r =>
        have hi : i ∈ Region.ready md ops listed := by rw [hr]; simp
        have := unlisted_set (mem_ready.1 hi).1
        omega
    exact ⟨this, hd listed a w h this⟩
  | fuel + 1, listed, a, w, h, hf => by
    refine ⟨fun hr => hd listed a w h hr, fun i hi => ?_⟩
    have hu := unlisted_set (mem_ready.1 hi).1
    obtain ⟨o, ho⟩ := Option.isSome_iff_exists.1 (ready_some hi)
    have h2 := hs listed a w h i hi o ho
    unfold wpOpIn
    rw [ho]
    dsimp only
    by_cases hw : Region.wanted o (yielded ops a.tmps) = true
    · rw [if_pos hw] at h2 ⊢
      exact Oper.wpIn_mono (fun a' w' h' => wpAnyIn_inv I hops hs hd fuel _ a' w' h' (by omega)) (wpIn_of_wp (fun c => hops i o c ho) h2)
    · rw [if_neg hw] at h2 ⊢
      exact ⟨fun f _ => trivial, wpAnyIn_inv I hops hs hd fuel _ _ _ h2 (by omega)⟩

theorem region_inRound (I : Array Bool → Act → World → Prop) {id : Nat} {a : Act} {w : World} {l n : Nat} (hm : P.follows .mixedOrders = true) (hops : ∀ (i : Nat) (o : Oper) (c : _), ops[i]? = some o → o.op ≠ .defer c)
    (h0 : I (Array.replicate ops.size false) a w.drew)
    (hs : ∀ listed a w, I listed a w → ∀ i, i ∈ Region.ready .any ops listed → opStep P ops Q i (I (listed.setIfInBounds i true)) a w)
    (hd : ∀ listed a w, I listed a w → Region.ready .any ops listed = [] → Q .normal a w) : (Code.region id ops true).wpIn (Fence.wide.inRound l) n P Q a w :=
  wpIn_region_any hm (wpAnyIn_inv I hops hs hd _ _ _ _ h0 (by rw [unlisted_none]; exact Nat.le_refl _))
end
end Go.Proofs.Ytlajejbglpggeaa
