/-
  coldstorelaw06.step: a step of the store, and of the reference's: the answers are the same.
-/
import Derived.Test.YtgnigkghkldcfaaSame6
import Derived.Test.YtgnigkghkldcfaaOps6
namespace Go.Proofs.Ytgnigkghkldcfaa
open Go.RowKit Go.Proofs Go.Lib

def OS.step (s : OS) (o : Op6) : OS :=
  if o.kind = 0 ∨ o.kind = 1 then s.put o.name o.b else if o.kind = 3 then s.drop o.name else if o.kind = 2 ∨ o.kind = 4 then s.op else s

/-- within step -/
structure StJ (w : World) (sb : Nat) (f : Value) (S0 S RS : Nat → Prop) (s1 s2 : OS) (ra : Option Addr) (rn rc : Nat) (q o l : Int) (fa : Option Addr) (fn fc : Nat) (L : List ((Bs × Bs) × Value)) (kind : Int) (name : Bs) (ba : Option Addr) (bn bc : Nat) (b : Bs) (W : World) : Prop where
  st : St W sb f S s1
  rf : RfL W (.slice ra rn rc) (.slice fa fn fc) L RS s2
  v : refV (.slice ra rn rc) (.slice fa fn fc) s2 = .agg #[.slice ra rn rc, .int .i64 q, .int .i64 o, .int .i64 l, .slice fa fn fc]
  ax : W.heap[w.heap.size]? = some (.cells #[.slice ra rn rc, .int .i64 q, .int .i64 o, .int .i64 l, .slice fa fn fc] 35 (0, 0))
  bo : W.heap[w.heap.size + 1]? = some (.cells #[.int .i64 kind, .string ⟨name.toArray⟩, .slice ba bn bc] 38 (0, 0))
  cr : W.heap[w.heap.size + 2]? = some (.cells #[.slice none 0 0, .int .i64 0, .int .i64 0, .int .i64 0, .slice none 0 0] 35 (0, 0))
  nx : ∀ x, w.heap.size ≤ x → x < w.heap.size + 3 → ¬ S x ∧ ¬ RS x
  dis : ∀ x, RS x → ¬ S x
  bb : BytesAt W (.slice ba bn bc) b
  br : ∀ x, 0 < b.length → vblk (.slice ba bn bc) = some x → RS x
  keep : Keep S0 w W
  gr : ∀ x, S x → S0 x ∨ w.heap.size ≤ x
  rl : ∀ x, RS x → x < W.heap.size

section
variable {w : World} {sb : Nat} {f : Value} {S0 S S' RS : Nat → Prop} {s1 s1' s2 : OS} {ra : Option Addr} {rn rc : Nat} {q o l : Int} {fa : Option Addr} {fn fc : Nat} {L : List ((Bs × Bs) × Value)} {kind : Int} {name : Bs} {ba : Option Addr} {bn bc : Nat} {b : Bs} {W W' : World}
theorem StJ.still (j : StJ w sb f S0 S RS s1 s2 ra rn rc q o l fa fn fc L kind name ba bn bc b W) (hk : Keep (fun _ => False) W W') : StJ w sb f S0 S RS s1 s2 ra rn rc q o l fa fn fc L kind name ba bn bc b W' :=
  ⟨j.st.keep0 hk, j.rf.keep0 hk, j.v, hk.heap j.ax id, hk.heap j.bo id, hk.heap j.cr id, j.nx, j.dis, Sl.keep j.bb hk (fun _ _ _ e => e), j.br, j.keep.trans' hk (fun _ _ e => e) (fun _ _ e => e.elim), j.gr, fun x e => Nat.lt_of_lt_of_le (j.rl x e) hk.size⟩
theorem StJ.turn (j : StJ w sb f S0 S RS s1 s2 ra rn rc q o l fa fn fc L kind name ba bn bc b W) (h : St W' sb f S' s1') (t : Turn S S' W W') : StJ w sb f S0 S' RS s1' s2 ra rn rc q o l fa fn fc L kind name ba bn bc b W' :=
  ⟨h, j.rf.keep t.keep (fun x e h => j.dis x h e), j.v, t.keep.heap j.ax (j.nx _ (by omega) (by omega)).1, t.keep.heap j.bo (j.nx _ (by omega) (by omega)).1, t.keep.heap j.cr (j.nx _ (by omega) (by omega)).1,
    fun x h1 h2 => ⟨fun e => (t.grow x e).elim (j.nx x h1 h2).1 (fun e => by have := lt_blk j.cr; omega), (j.nx x h1 h2).2⟩, fun x e e2 => (t.grow x e2).elim (j.dis x e) (fun e2 => by have := j.rl x e; omega),
    Sl.keep j.bb t.keep (fun x h1 h2 h3 => j.dis x (j.br x h1 h2) h3), j.br, j.keep.trans' t.keep (fun _ _ e => e) (fun i hi e => (j.gr i e).elim id (fun e => by omega)), fun x e => (t.grow x e).elim (j.gr x) (fun e => .inr (by have := j.keep.size; omega)), fun x e => Nat.lt_of_lt_of_le (j.rl x e) t.keep.size⟩
/-- the other blocks of the call's own -/
theorem StJ.mine (j : StJ w sb f S0 S RS s1 s2 ra rn rc q o l fa fn fc L kind name ba bn bc b W) {F : Nat → Prop} (hk : Keep F W W') (hF : ∀ x, F x → ¬ S x ∧ ¬ RS x ∧ w.heap.size + 3 ≤ x) : StJ w sb f S0 S RS s1 s2 ra rn rc q o l fa fn fc L kind name ba bn bc b W' :=
  ⟨j.st.keep hk (fun x e => (hF x e).1), j.rf.keep hk (fun x e => (hF x e).2.1), j.v, hk.heap j.ax (fun e => by have := (hF _ e).2.2; omega), hk.heap j.bo (fun e => by have := (hF _ e).2.2; omega), hk.heap j.cr (fun e => by have := (hF _ e).2.2; omega), j.nx, j.dis,
    Sl.keep j.bb hk (fun x h1 h2 h3 => (hF x h3).2.1 (j.br x h1 h2)), j.br, j.keep.trans' hk (fun _ _ e => e) (fun i hi e => by have := (hF i e).2.2; omega), j.gr, fun x e => Nat.lt_of_lt_of_le (j.rl x e) hk.size⟩
theorem StJ.cells (j : StJ w sb f S0 S RS s1 s2 ra rn rc q o l fa fn fc L kind name ba bn bc b W) : W.cell? ⟨w.heap.size + 1, 0, none⟩ = some (.int .i64 kind) ∧ W.cell? ⟨w.heap.size + 1, 1, none⟩ = some (.string ⟨name.toArray⟩) ∧ W.cell? ⟨w.heap.size + 1, 2, none⟩ = some (.slice ba bn bc) :=
  ⟨by rw [cell_blk j.bo]; rfl, by rw [cell_blk j.bo]; rfl, by rw [cell_blk j.bo]; rfl⟩
theorem StJ.ref (j : StJ w sb f S0 S RS s1 s2 ra rn rc q o l fa fn fc L kind name ba bn bc b W) : Rf W (.agg #[.slice ra rn rc, .int .i64 q, .int .i64 o, .int .i64 l, .slice fa fn fc]) RS s2 := by rw [← j.v]; exact ⟨_, _, L, rfl, j.rf⟩
end

theorem Rf.lit {w : World} {v : Value} {RS : Nat → Prop} {s : OS} (h : Rf w v RS s) : ∃ ra rn rc q o l fa fn fc, v = .agg #[.slice ra rn rc, .int .i64 q, .int .i64 o, .int .i64 l, .slice fa fn fc] := by
  obtain ⟨ra, rn, rc, fa, fc, L, rfl, _⟩ := h.agg
  exact ⟨_, _, _, _, _, _, _, _, _, rfl⟩

/-- what a step comes to -/
def StepPost (sb : Nat) (f : Value) (S RS : Nat → Prop) (s' : OS) (w : World) (e : Ending) (w' : World) : Prop :=
  ∃ (S' RS' : Nat → Prop) (v' : Value), e = .returned (.tuple #[v', .bool true]) ∧ St w' sb f S' s' ∧ Rf w' v' RS' s' ∧ (∀ x, RS' x → ¬ S' x ∧ x < w'.heap.size) ∧ (∀ x, S' x → S x ∨ w.heap.size ≤ x) ∧ (∀ x, RS x → RS' x) ∧ (∀ x, RS' x → RS x ∨ w.heap.size ≤ x) ∧ Keep S w w'

section
variable {w : World} {sb : Nat} {f : Value} {S0 S RS RS' : Nat → Prop} {s1 s2 s3 : OS} {ra : Option Addr} {rn rc : Nat} {q o l : Int} {fa : Option Addr} {fn fc : Nat} {L : List ((Bs × Bs) × Value)} {kind : Int} {name : Bs} {ba : Option Addr} {bn bc : Nat} {b : Bs} {W W' W9 : World} {v' : Value}
/-- the end: the reference has had its step too, and its store is laid into the result's box -/
theorem StJ.fin' (j : StJ w sb f S0 S RS s1 s2 ra rn rc q o l fa fn fc L kind name ba bn bc b W) (hk : Keep (fun _ => False) W W') (hr : Rf W' v' RS' s1) (h1 : ∀ x, RS' x → RS x ∨ (W.heap.size ≤ x ∧ x < W'.heap.size)) (h2 : ∀ x, RS x → RS' x) {F : Nat → Prop} (k9 : Keep F W' W9) (hF : ∀ x, F x → w.heap.size ≤ x ∧ ¬ S x ∧ ¬ RS' x) :
    StepPost sb f S0 RS s1 w (.returned (.tuple #[v', .bool true])) W9 := by
  refine ⟨S, RS', v', rfl, (j.st.keep0 hk).keep k9 (fun x e => (hF x e).2.1), hr.keep k9 (fun x e => (hF x e).2.2), fun x e => ⟨fun h => ?_, ?_⟩, j.gr, h2, fun x e => ?_, (j.keep.trans' hk (fun _ _ e => e) (fun _ _ e => e.elim)).trans' k9 (fun _ _ e => e) (fun i hi e => by have := (hF i e).1; omega)⟩
  · rcases h1 x e with e | e
    · exact j.dis x e h
    · have := j.st.lt x h; omega
  · rcases h1 x e with e | e
    · have := j.rl x e; have := hk.size; have := k9.size; omega
    · have := k9.size; omega
  · rcases h1 x e with e | e
    · exact .inl e
    · exact .inr (by have := j.keep.size; omega)
theorem StJ.fin (j : StJ w sb f S0 S RS s1 s2 ra rn rc q o l fa fn fc L kind name ba bn bc b W) (hk : Keep (fun _ => False) W W') (hr : Rf W' v' RS' s1) (h1 : ∀ x, RS' x → RS x ∨ (W.heap.size ≤ x ∧ x < W'.heap.size)) (h2 : ∀ x, RS x → RS' x) (k9 : Keep (· = w.heap.size + 2) W' W9) :
    StepPost sb f S0 RS s1 w (.returned (.tuple #[v', .bool true])) W9 := by
  have hz := lt_blk j.cr
  refine j.fin' hk hr h1 h2 k9 (fun x e => ⟨by omega, (j.nx x (by omega) (by omega)).1, fun h => ?_⟩)
  rcases h1 x h with h | h
  · exact (j.nx x (by omega) (by omega)).2 h
  · omega
end

/-- the three boxes laid -/
theorem stj_laid {w : World} {sb : Nat} {f : Value} {S RS : Nat → Prop} {s : OS} {ra : Option Addr} {rn rc : Nat} {q o l : Int} {fa : Option Addr} {fn fc : Nat} {L : List ((Bs × Bs) × Value)} {kind : Int} {name : Bs} {ba : Option Addr} {bn bc : Nat} {b : Bs} (hs : St w sb f S s) (hr : RfL w (.slice ra rn rc) (.slice fa fn fc) L RS s)
    (hv : refV (.slice ra rn rc) (.slice fa fn fc) s = .agg #[.slice ra rn rc, .int .i64 q, .int .i64 o, .int .i64 l, .slice fa fn fc]) (hd : ∀ x, RS x → ¬ S x ∧ x < w.heap.size) (hb : BytesAt w (.slice ba bn bc) b) (hbr : ∀ x, 0 < b.length → vblk (.slice ba bn bc) = some x → RS x) :
    StJ w sb f S S RS s s ra rn rc q o l fa fn fc L kind name ba bn bc b (((w.alloc (.cells #[.slice ra rn rc, .int .i64 q, .int .i64 o, .int .i64 l, .slice fa fn fc] 35)).alloc (.cells #[.int .i64 kind, .string ⟨name.toArray⟩, .slice ba bn bc] 38)).alloc (.cells #[.slice none 0 0, .int .i64 0, .int .i64 0, .int .i64 0, .slice none 0 0] 35)) := by
  have k : Keep (fun _ => False) w (((w.alloc (.cells #[.slice ra rn rc, .int .i64 q, .int .i64 o, .int .i64 l, .slice fa fn fc] 35)).alloc (.cells #[.int .i64 kind, .string ⟨name.toArray⟩, .slice ba bn bc] 38)).alloc (.cells #[.slice none 0 0, .int .i64 0, .int .i64 0, .int .i64 0, .slice none 0 0] 35)) := (((Keep.refl _ _).alloc _).alloc _).alloc _
  refine ⟨hs.keep0 k, hr.keep0 k, hv, alloc_blk (alloc_blk (alloc_new _ _) _) _, ?_, ?_, fun x h1 h2 => ⟨fun e => by have := hs.lt x e; omega, fun e => by have := (hd x e).2; omega⟩, fun x e => (hd x e).1, Sl.keep hb k (fun _ _ _ e => e), hbr, k.mono (fun _ _ e => e.elim), fun x e => .inl e, fun x e => Nat.lt_of_lt_of_le (hd x e).2 k.size⟩
  · have := alloc_new (w.alloc (.cells #[.slice ra rn rc, .int .i64 q, .int .i64 o, .int .i64 l, .slice fa fn fc] 35)) (.cells #[.int .i64 kind, .string ⟨name.toArray⟩, .slice ba bn bc] 38)
    rw [World.size_alloc] at this
    exact alloc_blk this _
  · have := alloc_new ((w.alloc (.cells #[.slice ra rn rc, .int .i64 q, .int .i64 o, .int .i64 l, .slice fa fn fc] 35)).alloc (.cells #[.int .i64 kind, .string ⟨name.toArray⟩, .slice ba bn bc] 38)) (.cells #[.slice none 0 0, .int .i64 0, .int .i64 0, .int .i64 0, .slice none 0 0] 35)
    simp only [World.size_alloc] at this
    exact this
end Go.Proofs.Ytgnigkghkldcfaa
