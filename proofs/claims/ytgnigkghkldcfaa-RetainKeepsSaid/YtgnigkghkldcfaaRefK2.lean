/-
  coldstoreref19.behind; a region that reads and calls what lays memory of its own, walked once.
-/
import Derived.Test.YtgnigkghkldcfaaRefK1
namespace Go.Proofs.Ytgnigkghkldcfaa
open Go.RowKit Go.Proofs Go.Lib Go.Maps Go.Sort Go.Shelf

theorem region_keep {P : Program} {id : Nat} {Q : Exit → Act → World → Prop} {a : Act} {W : World} {l : List Oper} (hm : P.follows .mixedOrders = true) (hB : Region.lexB .any l.toArray = true)
    (h : wpQuiet P l.toArray (fun w' => Keep (fun _ => False) W w') (fun a' => ∀ w', Keep (fun _ => False) W w' → Q .normal a' w') l a) : (Code.region id l.toArray true).wp P Q a W := by
  simp only [Region.lexB, Bool.and_eq_true] at hB
  refine wp_region_any hm (wpAny_of_quiet (C := fun w' => Keep (fun _ => False) W w') (Q := fun a' => ∀ w', Keep (fun _ => False) W w' → Q .normal a' w') (fun _ w' hw' h => h w' hw') _ _ _ _ (Keep.refl _ W).drew ?_)
  have := wpAnyQ_lex (C := fun w' => Keep (fun _ => False) W w') (md := .any) hB.1 l 0 (Array.replicate l.toArray.size false) a (by simp) (by simpa using hB.2) h
  simpa using this
section
variable {P : Program} {ops : Array Oper} {C : World → Prop} {Q : Act → Prop} {rest : List Oper} {o : Oper} {a : Act}
theorem quiet_at (hw : Region.wanted o (yielded ops a.tmps) = true) (v : Value) (h1 : ∀ w, C w → o.quietAt P a C w v) (h2 : ∀ K : Act → Prop, (∀ a, wpQuiet P ops C Q rest a → K a) → K (a.put o.dst v)) : wpQuiet P ops C Q (o :: rest) a := by
  refine wpQuiet_step (fun K hK => ?_)
  rw [if_pos hw]
  exact ⟨v, h1, h2 K hK⟩
theorem quiet_skip (hw : Region.wanted o (yielded ops a.tmps) = false) (h : wpQuiet P ops C Q rest (a.put o.dst undef)) : wpQuiet P ops C Q (o :: rest) a := by
  unfold wpQuiet
  rw [hw]
  exact h
theorem quiet_load {w : World} (ty : TypeId) (x : Operand) (ho : o.op = .load ty x) {ad : Addr} (hx : a.eval x = .pointer (some ad)) {v : Value} (hr : (Instr.loadAt ty (.pointer (some ad))).run P w = .ok v w) : o.quietAt P a C w v := by
  unfold Oper.quietAt execOp
  simp only [ho, hx, Sem.run_bind, hr, Result.andThen_ok, Sem.run_pure, Oper.quietUpon]
  exact ⟨trivial, trivial⟩
end

/-- a slice of the document's snapshots reads as one of the program's -/
theorem RSnap_load {w : World} {b o n c : Nat} {L : List SnapR} (h : SnapsAt w (.slice (some ⟨b, o, none⟩) n c) L) (h32 : Snaps32 L) {k : Nat} {s : SnapR} (hk : L[k]? = some s) :
    (Instr.loadAt 161 (.pointer (some ⟨b, o + k * 37, none⟩))).run Try.prog w = .ok (.agg (snapCells s).toArray) w :=
  run_loadAt_mid w b (o + k * 37) 161 (snapCells s) _ (h.range h32 hk) Try.underlying161 rfl (by rw [snapCells_len (h32 s (List.mem_of_getElem? hk))]; kernel_rfl)

set_option maxRecDepth 100000 in
set_option maxHeartbeats 4000000 in
theorem behind_any {w : World} {v : Value} {L : List SnapR} (hL : SnapsAt w v L) (h32 : Snaps32 L) {i k : Nat} (hi : i < L.length) (hk : k < L.length) (h40 : L.length < 40) :
    Calls Try.prog 118 #[v, .int .i64 i, .int .i64 k] w fun e w' => e = .returned (.bool (behindR L i k)) ∧ Keep (fun _ => False) w w' := by
  obtain ⟨si, hsi⟩ : ∃ s, L[i]? = some s := ⟨_, List.getElem?_eq_getElem hi⟩
  obtain ⟨sk, hsk⟩ : ∃ s, L[k]? = some s := ⟨_, List.getElem?_eq_getElem hk⟩
  have hb : behindR L i k = (lessR sk si || (decide (k < i) && !lessR si sk)) := by
    have e1 : L[i]! = si := by rw [List.getElem!_eq_getElem?_getD, hsi]; rfl
    have e2 : L[k]! = sk := by rw [List.getElem!_eq_getElem?_getD, hsk]; rfl
    unfold behindR
    rw [lessR_is, lessR_is, e1, e2]
  rw [hb]
  obtain ⟨lb, lo, vc, rfl, _, _⟩ := Sl.base hL (by omega)
  have hli := fun (W : World) (K : Keep (fun _ => False) w W) => RSnap_load (hL.keep K (fun _ _ e => e)) h32 hsi
  have hlk := fun (W : World) (K : Keep (fun _ => False) w W) => RSnap_load (hL.keep K (fun _ _ e => e)) h32 hsk
  have r1 := fun (W : World) => r11less_any (h32 _ (List.mem_of_getElem? hsk)) (h32 _ (List.mem_of_getElem? hsi)) W
  have r2 := fun (W : World) => r11less_any (h32 _ (List.mem_of_getElem? hsi)) (h32 _ (List.mem_of_getElem? hsk)) W
  obtain ⟨n, hn⟩ : ∃ n, n = L.length := ⟨_, rfl⟩
  rw [← hn] at hi hk h40 ⊢
  obtain ⟨X, hX⟩ : ∃ X, X = (snapCells si).toArray := ⟨_, rfl⟩
  obtain ⟨Y, hY⟩ : ∃ Y, Y = (snapCells sk).toArray := ⟨_, rfl⟩
  rw [← hX] at hli r1 r2; rw [← hY] at hlk r1 r2
  obtain ⟨x, hx⟩ : ∃ x, x = lessR sk si := ⟨_, rfl⟩
  obtain ⟨y, hy⟩ : ∃ y, y = lessR si sk := ⟨_, rfl⟩
  rw [← hx] at r1 ⊢; rw [← hy] at r2 ⊢
  obtain ⟨c, hc⟩ : ∃ c, c = decide (k < i) := ⟨_, rfl⟩
  rw [← hc]
  have hc2 : decide ((k : Int) < i) = c := by rw [hc]; apply decide_eq_decide.2; omega
  have i1 : (0 : Int) ≤ i := by omega
  have i2 : (i : Int) < n := by omega
  have k1 : (0 : Int) ≤ k := by omega
  have k2 : (k : Int) < n := by omega
  have HLI := Lib.hid hli; have HLK := Lib.hid hlk; have R1 := Lib.hid r1; have R2 := Lib.hid r2
  clear hli hlk r1 r2 hX hY hx hy hL hsi hsk hb hi hk h32 hn hc
  go_enter Try.func118, Try.ntmps118
  go_wp2_with fail
  refine region_keep (by kernel_rfl) (by kernel_rfl) ?_
  -- region 1
  (with_reducible refine quiet_at ?hw (.slice (some ⟨lb, lo, none⟩) n vc) (fun w' hw' => ?h1) (fun K hK => ?_); (case hw => kernel_rfl); (case h1 => go_simp); go_simp; with_reducible refine hK _ ?_; clear hK K)
  (with_reducible refine quiet_at ?hw (.int .i64 (k : Int)) (fun w' hw' => ?h1) (fun K hK => ?_); (case hw => kernel_rfl); (case h1 => go_simp); go_simp; with_reducible refine hK _ ?_; clear hK K)
  (with_reducible refine quiet_at ?hw (.pointer (some ⟨lb, lo + k * 37, none⟩)) (fun w' hw' => ?h1) (fun K hK => ?_); (case hw => kernel_rfl); (case h1 => go_simp); go_simp; with_reducible refine hK _ ?_; clear hK K)
  (with_reducible refine quiet_at ?hw (.agg Y) (fun w' hw' => ?h1) (fun K hK => ?_); (case hw => kernel_rfl); (case h1 => exact quiet_load 161 (.tmp 9) rfl rfl (HLK.out w' hw')); go_simp; with_reducible refine hK _ ?_; clear hK K)
  (with_reducible refine quiet_at ?hw (.slice (some ⟨lb, lo, none⟩) n vc) (fun w' hw' => ?h1) (fun K hK => ?_); (case hw => kernel_rfl); (case h1 => go_simp); go_simp; with_reducible refine hK _ ?_; clear hK K)
  (with_reducible refine quiet_at ?hw (.int .i64 (i : Int)) (fun w' hw' => ?h1) (fun K hK => ?_); (case hw => kernel_rfl); (case h1 => go_simp); go_simp; with_reducible refine hK _ ?_; clear hK K)
  (with_reducible refine quiet_at ?hw (.pointer (some ⟨lb, lo + i * 37, none⟩)) (fun w' hw' => ?h1) (fun K hK => ?_); (case hw => kernel_rfl); (case h1 => go_simp); go_simp; with_reducible refine hK _ ?_; clear hK K)
  (with_reducible refine quiet_at ?hw (.agg X) (fun w' hw' => ?h1) (fun K hK => ?_); (case hw => kernel_rfl); (case h1 => exact quiet_load 161 (.tmp 13) rfl rfl (HLI.out w' hw')); go_simp; with_reducible refine hK _ ?_; clear hK K)
  (with_reducible refine quiet_at ?hw (.bool x) (fun w' hw' => ?h1) (fun K hK => ?_); (case hw => kernel_rfl); (case h1 => go_simp; exact (R1.out w').mono fun e w'' h => ⟨h.1, hw'.trans h.2⟩); go_simp; with_reducible refine hK _ ?_; clear hK K)
  with_reducible refine wpQuiet_nil ?_
  intro W1 K1
  have HK1 := Lib.hid K1
  clear K1
  cases x
  case true =>
    go_wp2
    go_ret
    exact ⟨rfl, HK1.out⟩
  case false =>
    have HLI' := Lib.hid (fun (W : World) (K : Keep (fun _ => False) W1 W) => HLI.out W (HK1.out.trans K))
    have HLK' := Lib.hid (fun (W : World) (K : Keep (fun _ => False) W1 W) => HLK.out W (HK1.out.trans K))
    cases c
    case true =>
      go_wp2_with fail
      refine region_keep (by kernel_rfl) (by kernel_rfl) ?_
      (with_reducible refine quiet_at ?hw (.int .i64 (i : Int)) (fun w' hw' => ?h1) (fun K hK => ?_); (case hw => kernel_rfl); (case h1 => go_simp); go_simp; with_reducible refine hK _ ?_; clear hK K)
      (with_reducible refine quiet_at ?hw (.int .i64 (k : Int)) (fun w' hw' => ?h1) (fun K hK => ?_); (case hw => kernel_rfl); (case h1 => go_simp); go_simp; with_reducible refine hK _ ?_; clear hK K)
      (with_reducible refine quiet_at ?hw (.bool true) (fun w' hw' => ?h1) (fun K hK => ?_); (case hw => kernel_rfl); (case h1 => go_simp; have := of_decide_eq_true hc2; omega); go_simp; with_reducible refine hK _ ?_; clear hK K)
      (with_reducible refine quiet_at ?hw (.bool true) (fun w' hw' => ?h1) (fun K hK => ?_); (case hw => kernel_rfl); (case h1 => go_simp); go_simp; with_reducible refine hK _ ?_; clear hK K)
      (with_reducible refine quiet_at ?hw (.slice (some ⟨lb, lo, none⟩) n vc) (fun w' hw' => ?h1) (fun K hK => ?_); (case hw => kernel_rfl); (case h1 => go_simp); go_simp; with_reducible refine hK _ ?_; clear hK K)
      (with_reducible refine quiet_at ?hw (.int .i64 (i : Int)) (fun w' hw' => ?h1) (fun K hK => ?_); (case hw => kernel_rfl); (case h1 => go_simp); go_simp; with_reducible refine hK _ ?_; clear hK K)
      (with_reducible refine quiet_at ?hw (.pointer (some ⟨lb, lo + i * 37, none⟩)) (fun w' hw' => ?h1) (fun K hK => ?_); (case hw => kernel_rfl); (case h1 => go_simp); go_simp; with_reducible refine hK _ ?_; clear hK K)
      (with_reducible refine quiet_at ?hw (.agg X) (fun w' hw' => ?h1) (fun K hK => ?_); (case hw => kernel_rfl); (case h1 => exact quiet_load 161 (.tmp 22) rfl rfl (HLI'.out w' hw')); go_simp; with_reducible refine hK _ ?_; clear hK K)
      (with_reducible refine quiet_at ?hw (.slice (some ⟨lb, lo, none⟩) n vc) (fun w' hw' => ?h1) (fun K hK => ?_); (case hw => kernel_rfl); (case h1 => go_simp); go_simp; with_reducible refine hK _ ?_; clear hK K)
      (with_reducible refine quiet_at ?hw (.int .i64 (k : Int)) (fun w' hw' => ?h1) (fun K hK => ?_); (case hw => kernel_rfl); (case h1 => go_simp); go_simp; with_reducible refine hK _ ?_; clear hK K)
      (with_reducible refine quiet_at ?hw (.pointer (some ⟨lb, lo + k * 37, none⟩)) (fun w' hw' => ?h1) (fun K hK => ?_); (case hw => kernel_rfl); (case h1 => go_simp); go_simp; with_reducible refine hK _ ?_; clear hK K)
      (with_reducible refine quiet_at ?hw (.agg Y) (fun w' hw' => ?h1) (fun K hK => ?_); (case hw => kernel_rfl); (case h1 => exact quiet_load 161 (.tmp 26) rfl rfl (HLK'.out w' hw')); go_simp; with_reducible refine hK _ ?_; clear hK K)
      (with_reducible refine quiet_at ?hw (.bool y) (fun w' hw' => ?h1) (fun K hK => ?_); (case hw => kernel_rfl); (case h1 => go_simp; exact (R2.out w').mono fun e w'' h => ⟨h.1, hw'.trans h.2⟩); go_simp; with_reducible refine hK _ ?_; clear hK K)
      (with_reducible refine quiet_at ?hw (.bool (!y)) (fun w' hw' => ?h1) (fun K hK => ?_); (case hw => kernel_rfl); (case h1 => go_simp); go_simp; with_reducible refine hK _ ?_; clear hK K)
      (with_reducible refine quiet_at ?hw (.bool (!y)) (fun w' hw' => ?h1) (fun K hK => ?_); (case hw => kernel_rfl); (case h1 => go_simp); go_simp; with_reducible refine hK _ ?_; clear hK K)
      (with_reducible refine quiet_at ?hw (.bool (!y)) (fun w' hw' => ?h1) (fun K hK => ?_); (case hw => kernel_rfl); (case h1 => go_simp); go_simp; with_reducible refine hK _ ?_; clear hK K)
      with_reducible refine wpQuiet_nil ?_
      intro W2 K2
      have HK2 := Lib.hid (HK1.out.trans K2)
      clear K2
      go_wp2
      go_ret
      exact ⟨rfl, HK2.out⟩
    case false =>
      go_wp2_with fail
      refine region_keep (by kernel_rfl) (by kernel_rfl) ?_
      (with_reducible refine quiet_at ?hw (.int .i64 (i : Int)) (fun w' hw' => ?h1) (fun K hK => ?_); (case hw => kernel_rfl); (case h1 => go_simp); go_simp; with_reducible refine hK _ ?_; clear hK K)
      (with_reducible refine quiet_at ?hw (.int .i64 (k : Int)) (fun w' hw' => ?h1) (fun K hK => ?_); (case hw => kernel_rfl); (case h1 => go_simp); go_simp; with_reducible refine hK _ ?_; clear hK K)
      (with_reducible refine quiet_at ?hw (.bool false) (fun w' hw' => ?h1) (fun K hK => ?_); (case hw => kernel_rfl); (case h1 => go_simp; have := of_decide_eq_false hc2; omega); go_simp; with_reducible refine hK _ ?_; clear hK K)
      (with_reducible refine quiet_at ?hw (.bool false) (fun w' hw' => ?h1) (fun K hK => ?_); (case hw => kernel_rfl); (case h1 => go_simp); go_simp; with_reducible refine hK _ ?_; clear hK K)
      (with_reducible refine quiet_skip ?hw ?_; case hw => kernel_rfl)
      (with_reducible refine quiet_skip ?hw ?_; case hw => kernel_rfl)
      (with_reducible refine quiet_skip ?hw ?_; case hw => kernel_rfl)
      (with_reducible refine quiet_skip ?hw ?_; case hw => kernel_rfl)
      (with_reducible refine quiet_skip ?hw ?_; case hw => kernel_rfl)
      (with_reducible refine quiet_skip ?hw ?_; case hw => kernel_rfl)
      (with_reducible refine quiet_skip ?hw ?_; case hw => kernel_rfl)
      (with_reducible refine quiet_skip ?hw ?_; case hw => kernel_rfl)
      (with_reducible refine quiet_skip ?hw ?_; case hw => kernel_rfl)
      (with_reducible refine quiet_skip ?hw ?_; case hw => kernel_rfl)
      (with_reducible refine quiet_at ?hw (.bool false) (fun w' hw' => ?h1) (fun K hK => ?_); (case hw => kernel_rfl); (case h1 => go_simp); go_simp; with_reducible refine hK _ ?_; clear hK K)
      (with_reducible refine quiet_at ?hw (.bool false) (fun w' hw' => ?h1) (fun K hK => ?_); (case hw => kernel_rfl); (case h1 => go_simp); go_simp; with_reducible refine hK _ ?_; clear hK K)
      with_reducible refine wpQuiet_nil ?_
      intro W2 K2
      have HK2 := Lib.hid (HK1.out.trans K2)
      clear K2
      go_wp2
      go_ret
      exact ⟨rfl, HK2.out⟩
end Go.Proofs.Ytgnigkghkldcfaa
