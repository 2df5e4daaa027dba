/-
  coldstoreref06: how its store reads; Blows, Op.
-/
import Derived.Test.YtlajejbglpggeaaListsLaw
import Derived.Test.YtlajejbglpggeaaSameL
import Derived.Handy
namespace Go.Proofs.Ytlajejbglpggeaa
open Go.RowKit Go.Proofs Go.Lib

def thCells (p : (Bs × Bs) × Value) : List Value := [strV p.1.1, p.2]
/-- A slice of Thing. -/
structure ThAt (w : World) (v : Value) (L : List ((Bs × Bs) × Value)) : Prop where
  row : Sl w 2 v L.length (L.flatMap thCells)
  bytes : ∀ p ∈ L, BytesAt w p.2 p.1.2

def refV (rv fv : Value) (s : OS) : Value := .agg #[rv, .int .i64 s.quota, .int .i64 s.ops, .int .i64 s.left, fv]

/-- nil, or a slice of memory -/
def RowSh (v : Value) : Prop := v = .slice none 0 0 ∨ ∃ b o n c, v = .slice (some ⟨b, o, none⟩) n c
theorem own_sh {w : World} {base : Nat} {e : TypeId} {k : Nat} {v : Value} {n : Nat} {xs : List Value} (h : w.ownsRow base e k v n xs) : RowSh v := by
  rcases h.2 with ⟨rfl, rfl⟩ | ⟨g, cap, cur, rfl, _⟩
  · exact .inl rfl
  · exact .inr ⟨_, _, _, _, rfl⟩

/-- The reference's store, a value; RS bounds its blocks. -/
structure RfL (w : World) (rv fv : Value) (L : List ((Bs × Bs) × Value)) (RS : Nat → Prop) (s : OS) : Prop where
  rows : ThAt w rv L
  is : L.map (·.1) = s.row
  sh : RowSh rv
  faults : Sl w 1 fv s.faults.length (s.faults.map .bool)
  rb : ∀ b, 0 < L.length → vblk rv = some b → RS b
  bb : ∀ p ∈ L, ∀ b, 0 < p.1.2.length → vblk p.2 = some b → RS b
  fb : ∀ b, 0 < s.faults.length → vblk fv = some b → RS b
def Rf (w : World) (v : Value) (RS : Nat → Prop) (s : OS) : Prop := ∃ rv fv L, v = refV rv fv s ∧ RfL w rv fv L RS s

theorem RfL.keep {w w' : World} {rv fv : Value} {L : List ((Bs × Bs) × Value)} {RS : Nat → Prop} {s : OS} (h : RfL w rv fv L RS s) {F : Nat → Prop} (hk : Keep F w w') (hF : ∀ b, F b → ¬ RS b) : RfL w' rv fv L RS s :=
  ⟨⟨Sl.keep h.rows.row hk (fun b hn e h' => hF b h' (h.rb b hn e)), fun p hp => Sl.keep (h.rows.bytes p hp) hk (fun b hn e h' => hF b h' (h.bb p hp b hn e))⟩, h.is, h.sh, Sl.keep h.faults hk (fun b hn e h' => hF b h' (h.fb b hn e)), h.rb, h.bb, h.fb⟩
theorem Rf.keep {w w' : World} {v : Value} {RS : Nat → Prop} {s : OS} (h : Rf w v RS s) {F : Nat → Prop} (hk : Keep F w w') (hF : ∀ b, F b → ¬ RS b) : Rf w' v RS s :=
  let ⟨rv, fv, L, e, h⟩ := h; ⟨rv, fv, L, e, h.keep hk hF⟩
theorem RfL.keep0 {w w' : World} {rv fv : Value} {L : List ((Bs × Bs) × Value)} {RS : Nat → Prop} {s : OS} (h : RfL w rv fv L RS s) (hk : Keep (fun _ => False) w w') : RfL w' rv fv L RS s := h.keep hk (fun _ e => e.elim)
theorem Rf.keep0 {w w' : World} {v : Value} {RS : Nat → Prop} {s : OS} (h : Rf w v RS s) (hk : Keep (fun _ => False) w w') : Rf w' v RS s := h.keep hk (fun _ e => e.elim)
theorem RfL.mono {w : World} {rv fv : Value} {L : List ((Bs × Bs) × Value)} {RS RS' : Nat → Prop} {s : OS} (h : RfL w rv fv L RS s) (hR : ∀ b, RS b → RS' b) : RfL w rv fv L RS' s :=
  ⟨h.rows, h.is, h.sh, h.faults, fun b h1 h2 => hR b (h.rb b h1 h2), fun p hp b h1 h2 => hR b (h.bb p hp b h1 h2), fun b h1 h2 => hR b (h.fb b h1 h2)⟩
theorem Rf.mono {w : World} {v : Value} {RS RS' : Nat → Prop} {s : OS} (h : Rf w v RS s) (hR : ∀ b, RS b → RS' b) : Rf w v RS' s :=
  let ⟨rv, fv, L, e, h⟩ := h; ⟨rv, fv, L, e, h.mono hR⟩
theorem Rf.agg {w : World} {v : Value} {RS : Nat → Prop} {s : OS} (h : Rf w v RS s) : ∃ ra rn rc fa fc L, v = refV (.slice ra rn rc) (.slice fa s.faults.length fc) s ∧ rn = L.length ∧ RfL w (.slice ra rn rc) (.slice fa s.faults.length fc) L RS s := by
  obtain ⟨rv, fv, L, rfl, h⟩ := h
  obtain ⟨_, ra, rc, rfl, _⟩ := h.rows.row
  obtain ⟨_, fa, fc, rfl, _⟩ := h.faults
  exact ⟨ra, _, rc, fa, fc, L, rfl, rfl, h⟩

theorem sl_cons {W : World} {x : Bool} {r : List Bool} {v : Value} (h : Sl W 1 v (r.length + 1) ((x :: r).map .bool)) :
    ∃ b o c, v = .slice (some ⟨b, o, none⟩) (r.length + 1) c ∧ r.length + 1 ≤ c ∧ c ≤ maxLen ∧ W.cell? ⟨b, o, none⟩ = some (.bool x) := by
  obtain ⟨_, a, c, rfl, h1, h2, _, h4⟩ := h
  obtain ⟨b, o, rfl, h5⟩ := h4 (by omega)
  have := h5 0 (by omega)
  exact ⟨b, o, c, rfl, h1, h2, by simp⟩

end Go.Proofs.Ytlajejbglpggeaa
