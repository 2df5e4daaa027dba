/-
  append of whatever slice that reads as a list to a row of the call's own. Over any program.
-/
import Derived.Test.YtlajejbglpggeaaColl
import Derived.Maps.AppendAt
import Derived.Laws.AppendOwnNone
namespace Go.Proofs.Ytlajejbglpggeaa
open Go.RowKit Go.Proofs Go.Lib

theorem wpList_append_sl {P : Program} {W : World} {ops : Array Oper} {rest : List Oper} {o : Oper} {a : Act} {Q : Exit → Act → World → Prop} (hgd : o.guard = none) (s x : Operand) (t : TypeId)
    (ho : o.op = .call { callee := .builtin .append, args := #[s, x], argTypes := #[t, t] })
    (base : Nat) (e : TypeId) (i : TypeInfo) (z : Value) (size bytes : Nat) (ht : P.underlying t = some (.slice e)) (hi : P.info? e = some i) (hz : i.zero = some z)
    (hsize : i.size = size) (hby : i.bytes = bytes) (hzs : z.cells.size = size) (hsz : 0 < size)
    (v : Value) (n : Nat) (xs : List Value) (hs : a.eval s = v) (hown : W.ownsRow base e size v n xs)
    (sv : Value) (m : Nat) (news : List Value) (hx : a.eval x = sv) (hsl : Sl W size sv m news) (h1 : ∀ u ∈ news, u.oneCell' = true)
    (h63 : n + m ≤ maxLen) (hbytes : (n + m) * bytes ≤ 140737488355328) (hbase : base ≤ W.heap.size)
    (h : ∀ v' W', W'.ownsRow base e size v' (n + m) (xs ++ news) → Keep (fun b => vblk v = some b) W W' → (∀ b, vblk v' = some b → vblk v = some b ∨ W.heap.size ≤ b) → wpList P ops Q rest (a.put o.dst v') W') :
    wpList P ops Q (o :: rest) a W := by
  obtain ⟨hl, p, c, rfl, h2, h3, h4, h5⟩ := hsl
  cases p with
  | none =>
    have hc := h4 rfl
    subst hc
    have hm : m = 0 := by omega
    subst hm
    have hn : news = [] := List.eq_nil_of_length_eq_zero (by omega)
    subst hn
    refine wpList_append_own_none hgd s x t ho base e i size ht hi v n xs hs hown hx (h _ _ (by simpa using hown) (Keep.refl _ _) (fun b e => .inl e))
  | some p =>
    refine wpList_append_own_at _ hgd s x t ho base e i z size bytes ht hi hz hsize hby hzs hsz v n xs hs hown p m c news hx hl (Sl.cells ⟨hl, _, c, rfl, h2, h3, h4, h5⟩) h1 h63 hbytes hbase ?_
    intro v' W' hown' hg _ hb
    refine h v' W' hown' ((Keep.of_grownBy hg).mono (fun _ _ e => ownBlock_vblk e)) (fun b e => ?_)
    have e' : v'.ownBlock = some b := by rw [vblk_own hown']; exact e
    rcases hb with hb | hb
    · exact .inl (ownBlock_vblk (by rw [← hb]; exact e'))
    · rw [hb] at e'; cases e'; exact .inr (Nat.le_refl _)
end Go.Proofs.Ytlajejbglpggeaa
