/-
  guard.Catch: a function run under a fuse: whether it blew. Over whatever the function's own call comes to, if it returns or blows by that fuse.
-/
import Derived.Test.YtgnigkghkldcfaaBase0
import Derived.Test.YtgnigkghkldcfaaObj0
import Derived.Defers
import Derived.Recover
import Derived.Laws.Pointers
import Derived.LaidEql
namespace Go.Proofs.Ytgnigkghkldcfaa
open Go.RowKit Go.Proofs

theorem info_fuse : (Try.prog.info? 119).isSome = true := by kernel_rfl
theorem info_some {o : Option TypeInfo} (h : o.isSome = true) : ∃ j, o = some j := Option.isSome_iff_exists.1 h
theorem neq_same {P : Program} {tp te : TypeId} {j : TypeInfo} (a : Addr) (hp : P.underlying tp = some (.pointer te)) (hte : P.info? te = some j) (w : World) : (binOp .neq tp (.pointer (some a)) (.pointer (some a))).run P w = .ok (.bool false) w := by
  have h : ∀ d : Nat, (Op.equalIn (d + 1) tp (.pointer (some a)) (.pointer (some a))).run P w = .ok true w := fun d => by
    simp [Op.equalIn, run_underlying hp, sizeOf, typeInfo, hte, run_sameAddr_same]
  simp only [binOp]
  simp [Op.equal, Op.maxDepth, h 9999]

theorem catch1_idle (p q : Nat) (w : World) :
    CallsD Try.prog 63 #[.pointer (some ⟨p, 0, none⟩), .pointer (some ⟨q, 0, none⟩)] .returning w fun e u' w' => e = .returned (.tuple #[]) ∧ u' = .returning ∧ w' = w := by
  refine callsD_of_wpS Try.func63 rfl fun c₀ cs hu => ?_
  apply wpS_seq
  apply wpS_region
  simp [wpOpsS, go_sem, recoverD, hu, Try.ntmps63, Exit.thenS, Array.replicate_succ, Array.replicate_zero]
  refine wpS_of_wp ?_
  go_wp2
  cases c₀
  simp_all [bodyPostS, results, Try.results63]

set_option maxRecDepth 100000 in
theorem catch1_blown (p q fb : Nat) (w : World) (hp : w.heap[p]? = some (.cells #[.pointer (some ⟨fb, 0, none⟩)] 30 (0, 0))) (hq : w.heap[q]? = some (.cells #[.bool false] 4 (0, 0))) :
    CallsD Try.prog 63 #[.pointer (some ⟨p, 0, none⟩), .pointer (some ⟨q, 0, none⟩)] (.panicking (blowChain fb)) w fun e u' w' =>
      e = .returned (.tuple #[]) ∧ u' = .panicking [{ v := .iface 122 (.agg #[.pointer (some ⟨fb, 0, none⟩)]), recovered := true }] ∧ Keep (fun k => k = q) w w' ∧ w'.heap[q]? = some (.cells #[.bool true] 4 (0, 0)) := by
  refine callsD_of_wpS Try.func63 rfl fun c₀ cs hu => ?_
  unfold blowChain at hu
  have hta : ∀ (v : Value) (w : World), (Instr.typeAssert (.iface 122 v) 20 122 true).run Try.prog w = .ok (.tuple #[v, .bool true]) w := fun v w => by kernel_rfl
  obtain ⟨j, hj⟩ := info_some info_fuse
  have hne := fun w => neq_same (P := Try.prog) ⟨fb, 0, none⟩ Try.underlying30 hj w
  have hp1 := cell_blk (alloc_blk hp (.cells #[.pointer (some ⟨fb, 0, none⟩)] 122)) 0
  have hq0 := alloc_blk hq (.cells #[.pointer (some ⟨fb, 0, none⟩)] 122)
  have hq1 := cell_blk hq0 0
  have hq2 := frozen_blk hq0 0
  simp at hp1 hq1
  have hk := ((Keep.refl (fun k => k = q) w).alloc (.cells #[.pointer (some ⟨fb, 0, none⟩)] 122)).setCell (p := ⟨q, 0, none⟩) (fun _ => rfl) (.bool true)
  have hn := set_blk hq0 0 (.bool true)
  have HK := Lib.hid hk; have HN := Lib.hid hn
  clear hk hn
  apply wpS_seq
  apply wpS_region
  simp [wpOpsS, go_sem, recoverD, hu, Try.ntmps63, Exit.thenS, Array.replicate_succ, Array.replicate_zero]
  refine wpS_of_wp ?_
  go_wp2
  cases c₀
  refine ⟨rfl, _, rfl, _, by simp [results, Try.results63], rfl, rfl, HK.out, HN.out⟩

/-- What a call of Catch comes to. -/
def CatchPost (w : World) (R0 R1 : World → Prop) (e : Ending) (w' : World) : Prop :=
  ∃ w1, ((e = .returned (.bool false) ∧ R0 w1) ∨ (e = .returned (.bool true) ∧ R1 w1)) ∧ Keep (fun k => k = w.heap.size + 1) w1 w'

def catchW (w : World) (fb : Nat) : World := (w.alloc (.cells #[.pointer (some ⟨fb, 0, none⟩)] 30)).alloc (.cells #[.bool false] 4)
theorem catchW_keep (w : World) (fb : Nat) : Keep (fun _ => False) w (catchW w fb) := ((Keep.refl _ w).alloc _).alloc _

theorem catch_any (fb : Nat) (c : Clo) (hE : Enters Try.prog c.g) (w : World) (args : Array Value) (ha : c.first ++ c.cap = args) (R0 R1 : World → Prop)
    (hK0 : ∀ w', R0 w' → Keep (fun k => k < w.heap.size) (catchW w fb) w') (hK1 : ∀ w', R1 w' → Keep (fun k => k < w.heap.size) (catchW w fb) w')
    (hR : Calls Try.prog c.g args (catchW w fb) fun e w' => (e = .returned (.tuple #[]) ∧ R0 w') ∨ (e = .panicked (blowChain fb) ∧ R1 w')) :
    Calls Try.prog 22 #[.pointer (some ⟨fb, 0, none⟩), c.val] w (CatchPost w R0 R1) := by
  have hmf : ∀ (fn : Fn) (first cap : Array Value) (w : World), (Instr.makeFunc fn first cap).run Try.prog w = .ok (.func fn first cap) w := fun _ _ _ _ => rfl
  subst ha
  obtain ⟨g, first, cap⟩ := c
  unfold Clo.val
  have eg : ∀ args w, (callFunc g args).run Try.prog w = .ok (.enter g args) w := hE
  unfold catchW at hR
  dsimp only at hR
  have HR := Lib.hid hR
  clear hR
  go_enter_defers Try.func22, Try.ntmps22
  go_wp2_with fail
  refine HR.out.mono ?_
  have hp0 : (catchW w fb).heap[w.heap.size]? = some (.cells #[.pointer (some ⟨fb, 0, none⟩)] 30 (0, 0)) := alloc_blk (alloc_new _ _) _
  have hq0 : (catchW w fb).heap[w.heap.size + 1]? = some (.cells #[.bool false] 4 (0, 0)) := by
    have := alloc_new (w.alloc (.cells #[.pointer (some ⟨fb, 0, none⟩)] 30)) (.cells #[.bool false] 4)
    rw [World.size_alloc] at this; exact this
  have HP := Lib.hid hp0; have HQ := Lib.hid hq0; clear hp0 hq0
  rintro e w1 (⟨rfl, h0⟩ | ⟨rfl, h1⟩)
  · have hk := hK0 _ h0
    have c := cell_blk (hk.heap HQ.out (by simp)) 0
    have f := frozen_blk (hk.heap HQ.out (by simp)) 0
    simp at c
    have kk := (Keep.refl (fun k => k = w.heap.size + 1) w1).setCell (p := ⟨w.heap.size + 1, 0, none⟩) (fun _ => rfl) (.bool false)
    have cc := cell_blk (set_blk (hk.heap HQ.out (by simp)) 0 (.bool false)) 0
    simp at cc
    have H1 := Lib.hid h0; have H2 := Lib.hid kk; have H3 := Lib.hid cc
    clear h0 hk kk cc hK0 hK1
    go_wp2
    refine leaves_cons (f := 63) (args := #[.pointer (some ⟨w.heap.size, 0, none⟩), .pointer (some ⟨w.heap.size + 1, 0, none⟩)]) (by simp) (by simp [go_sem]) ?_
    refine (catch1_idle _ _ _).mono ?_
    rintro e u' w'' ⟨rfl, rfl, rfl⟩
    refine ⟨.bool false, ?_, w1, .inl ⟨rfl, H1.out⟩, H2.out⟩
    simp [results, Try.results22, go_sem, H3.out]
  · have hk := hK1 _ h1
    have hp1 := hk.heap HP.out (by simp)
    have hq1 := hk.heap HQ.out (by simp)
    refine leaves_cons (f := 63) (args := #[.pointer (some ⟨w.heap.size, 0, none⟩), .pointer (some ⟨w.heap.size + 1, 0, none⟩)]) (by simp) (by simp [go_sem]) ?_
    refine (catch1_blown _ _ fb _ hp1 hq1).mono ?_
    rintro e u' w'' ⟨rfl, rfl, hkk, hqq⟩
    have cc := cell_blk hqq 0
    simp at cc
    refine ⟨.bool true, ?_, w1, .inr ⟨rfl, h1⟩, hkk⟩
    simp [results, Try.results22, go_sem, cc]
end Go.Proofs.Ytgnigkghkldcfaa
