/-
  Plain laws for coldstorelaw06.ObjectLists, ObjectRooms: rows whose elements are turned by a function; a store without a fuse, or faults.
-/
import Derived.Test.YtlajejbglpggeaaCopies
import Derived.Test.YtlajejbglpggeaaMapRange
namespace Go.Proofs.Ytlajejbglpggeaa
open Go.RowKit Go.Proofs Go.Lib

section
variable {α β : Type} (g : α → β)
def mapV (m : List (Bs × α)) : List (Bs × β) := m.map fun e => (e.1, g e.2)
theorem lk_mapV : ∀ (m : List (Bs × α)) (k : Bs), lk (mapV g m) k = (lk m k).map g
  | [], _ => rfl
  | e :: r, k => by
    show lk ((e.1, g e.2) :: mapV g r) k = _
    rw [lk_cons, lk_cons, lk_mapV r k]
    split <;> rfl
theorem delK_mapV (m : List (Bs × α)) (k : Bs) : delK k (mapV g m) = mapV g (delK k m) := by
  unfold delK mapV
  rw [List.filter_map]; rfl
theorem insK_mapV (x : Bs × α) : ∀ m : List (Bs × α), insK (x.1, g x.2) (mapV g m) = mapV g (insK x m)
  | [] => rfl
  | y :: r => by
    show insK (x.1, g x.2) ((y.1, g y.2) :: mapV g r) = _
    unfold insK
    dsimp only
    split
    · rfl
    · rw [insK_mapV x r]; rfl
theorem putK_mapV (m : List (Bs × α)) (k : Bs) (v : α) : putK k (g v) (mapV g m) = mapV g (putK k v m) := by
  unfold putK
  rw [delK_mapV]
  exact insK_mapV g (k, v) _
theorem rising_mapV {m : List (Bs × α)} (h : Rising m) : Rising (mapV g m) := by
  unfold Rising mapV
  rw [List.pairwise_map]
  exact h
theorem length_mapV (m : List (Bs × α)) : (mapV g m).length = m.length := by simp [mapV]
theorem keys_mapV (m : List (Bs × α)) : (mapV g m).map (·.1) = m.map (·.1) := by simp [mapV]
end

def lenV (b : Bs) : Value := .int .i64 b.length

/-- what a store without a fuse, or faults, has behind a step -/
def pRow (q : Int) (row : List (Bs × Bs)) (nm b : Bs) : List (Bs × Bs) := if (cs q row 0).putCode nm b = 0 then putK nm b row else row
theorem cs_code0 (q : Int) (row : List (Bs × Bs)) (i : Int) (nm b : Bs) : (cs q row i).putCode nm b = (cs q row 0).putCode nm b := rfl
theorem cs_pRow (q : Int) (row : List (Bs × Bs)) (i : Nat) (nm b : Bs) : (cs q row i).put nm b = cs q (pRow q row nm b) (i + 1 : Nat) := by
  unfold pRow
  rw [← cs_code0 q row i]
  split
  · rename_i h; exact cs_put h
  · rename_i h; exact cs_put_no h
theorem cs_dRow (q : Int) (row : List (Bs × Bs)) (i : Nat) (nm : Bs) : (cs q row i).drop nm = cs q (delK nm row) (i + 1 : Nat) := by
  unfold OS.drop
  by_cases h : (cs q row i).getCode nm = 0
  · rw [if_pos h]; rfl
  · rw [if_neg h]
    have hn : lk row nm = none := by
      unfold OS.getCode at h
      rw [cs_code, if_neg (by decide)] at h
      cases hl : lk row nm with
      | none => rfl
      | some v =>
        rw [show lk (cs q row i).row nm = some v from hl] at h
        exact absurd rfl h
    rw [delK_none hn]; rfl
theorem pRow_le {q : Int} {row : List (Bs × Bs)} (hr : Rising row) (nm b : Bs) : (pRow q row nm b).length ≤ row.length + 1 := by
  unfold pRow
  split
  · exact length_putK_le hr nm b
  · omega
theorem delK_le {α : Type} (k : Bs) (m : List (Bs × α)) : (delK k m).length ≤ m.length := List.length_filter_le _ _

theorem less_before : ∀ x y : Bs, Op.bytesLess x y = bytesBefore x y
  | [], [] => rfl
  | [], _ :: _ => rfl
  | _ :: _, [] => rfl
  | a :: r, b :: s => by rw [Op.bytesLess, bytesBefore, less_before r s]
theorem rising_names {row : List (Bs × Bs)} (h : Rising row) (pre : Bs → Bool) {k l : Nat} (hkl : k < l) {a b : Bs} (ha : ((row.map (·.1)).filter pre)[k]? = some a) (hb : ((row.map (·.1)).filter pre)[l]? = some b) : Op.bytesLess a b = true := by
  rw [less_before]
  have h1 : ((row.map (·.1)).filter pre).Pairwise (fun a b => bytesBefore a b = true) := by
    refine List.Pairwise.filter _ ?_
    rw [List.pairwise_map]
    exact h
  rw [List.pairwise_iff_getElem] at h1
  obtain ⟨h2, rfl⟩ := List.getElem?_eq_some_iff.1 ha
  obtain ⟨h3, rfl⟩ := List.getElem?_eq_some_iff.1 hb
  exact h1 k l h2 h3 hkl
theorem cs_all (q : Int) (row : List (Bs × Bs)) (k : Int) (h : row.length ≤ 1000) : (cs q row k).some 1000 = row.map (fun r => (r.1, r.2.length)) := by
  unfold OS.some
  rw [List.take_of_length_le (by simp [OS.list, cs]; omega)]
  rfl
theorem cs_listed (q : Int) (row : List (Bs × Bs)) (k : Int) : (cs q row k).listed [] = row.map (·.1) := by
  unfold OS.listed OS.names
  rw [if_pos (cs_code _ _ _)]
  rw [List.filter_eq_self.2 (fun x _ => by rfl)]
  rfl
theorem run_makeMap_all (t : TypeId) (w : World) : (Instr.makeMap t none).run Try.prog w = .ok (.map (some w.heap.size)) (w.alloc (.map #[] 0)) := by
  simp [Instr.makeMap, go_sem]
theorem zero_int (w : World) : (zeroValue 3).run Try.prog w = .ok (.int .i64 0) w := by kernel_rfl
theorem zero_string (w : World) : (zeroValue 9).run Try.prog w = .ok (.string ⟨#[]⟩) w := by kernel_rfl
end Go.Proofs.Ytlajejbglpggeaa
