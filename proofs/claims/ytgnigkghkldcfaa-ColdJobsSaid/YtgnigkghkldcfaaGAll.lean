/-
  guard.All: the steps, one by one, until one has an error: over whatever the steps' own calls come to.
-/
import Derived.Test.YtgnigkghkldcfaaObj
import Derived.Deep.LoopGhost
import Derived.Deep.Light
namespace Go.Proofs.Ytgnigkghkldcfaa
open Go.RowKit Go.Proofs Go.Lib

/-- A function value of the program's. -/
structure Clo where
  g : Nat
  first : Array Value
  cap : Array Value
def Clo.val (c : Clo) : Value := .func (.func c.g) c.first c.cap
def Enters (P : Program) (g : Nat) : Prop := ∀ args w, (callFunc g args).run P w = .ok (.enter g args) w

def Lies (cs : List Clo) (b o : Nat) (w : World) : Prop := ∀ j c', cs[j]? = some c' → w.cell? ⟨b, o + j, none⟩ = some c'.val

def AllRun (b o : Nat) (cs : List Clo) (Q : Ending → World → Prop) : List Clo → Nat → World → Prop
  | [], i, w => Q (.returned (.tuple #[.int .i64 i, .int .i64 0])) w
  | c :: r, i, w => Calls Try.prog c.g (c.first ++ c.cap) w fun e w' =>
      (∃ n : Int, e = .returned (.int .i64 n) ∧ n ≠ 0 ∧ Q (.returned (.tuple #[.int .i64 i, .int .i64 n])) w') ∨
      (e = .returned (.int .i64 0) ∧ Lies cs b o w' ∧ AllRun b o cs Q r (i + 1) w') ∨
      (∃ ch, e = .panicked ch ∧ Q (.panicked ch) w')

theorem allRun_cons {b o : Nat} {cs : List Clo} {Q : Ending → World → Prop} {g : Nat} {first cap args : Array Value} {r : List Clo} {i : Nat} {w : World} (ha : first ++ cap = args) (h : Calls Try.prog g args w fun e w' =>
      (∃ n : Int, e = .returned (.int .i64 n) ∧ n ≠ 0 ∧ Q (.returned (.tuple #[.int .i64 i, .int .i64 n])) w') ∨
      (e = .returned (.int .i64 0) ∧ Lies cs b o w' ∧ AllRun b o cs Q r (i + 1) w') ∨
      (∃ ch, e = .panicked ch ∧ Q (.panicked ch) w')) : AllRun b o cs Q (⟨g, first, cap⟩ :: r) i w := by
  subst ha; exact h

theorem gall_any (cs : List Clo) (hE : ∀ c ∈ cs, Enters Try.prog c.g) (b o cap : Nat) (w : World) (hL : Lies cs b o w) (hn : cs.length ≤ 1000) (Q : Ending → World → Prop) (hR : AllRun b o cs Q cs 0 w) :
    Calls Try.prog 71 #[.slice (some ⟨b, o, none⟩) cs.length cap] w Q := by
  go_enter Try.func71, Try.ntmps71
  go_wp2
  go_loopg [9] cs.length (fun g v9 wr => ∃ k : Nat, k ≤ cs.length ∧ g = cs.length - k ∧ v9 = .int .i64 k ∧ Lies cs b o wr ∧ AllRun b o cs Q (cs.drop k) k wr)
  case atStart => exact ⟨0, Nat.zero_le _, rfl, rfl, hL, hR⟩
  case round =>
    obtain ⟨k, hk, hg, rfl, hLr, hRr⟩ := hrel
    have HG := Lib.hid hg; clear hg
    by_cases hlt : k < cs.length
    · obtain ⟨c, hc⟩ : ∃ c, cs[k]? = some c := ⟨_, List.getElem?_eq_getElem hlt⟩
      have hcell := hLr k c hc
      have hm : c ∈ cs := List.mem_of_getElem? hc
      have eg : ∀ args w, (callFunc c.g args).run Try.prog w = .ok (.enter c.g args) w := hE c hm
      have hd : cs.drop k = c :: cs.drop (k + 1) := by
        rw [List.drop_eq_getElem_cons hlt]
        rw [List.getElem?_eq_getElem hlt] at hc
        cases hc; rfl
      rw [hd] at hRr
      have HR := Lib.hid hRr; clear hRr hd hc hR hE
      unfold Clo.val at hcell
      go_wp2_with fail
      refine HR.out.mono ?_
      rintro e w' (⟨n, rfl, hn0, hq⟩ | ⟨rfl, hL', hR'⟩ | ⟨ch, rfl, hq⟩)
      · have hnz : (n == 0) = false := by simpa using hn0
        clear hn0
        go_wp2
        exact hq
      · go_wp2
        go_roundg (cs.length - (k + 1))
        case measure => have := HG.out; omega
        case rel => exact ⟨k + 1, by omega, rfl, by go_num, hL', hR'⟩
      · exact ⟨rfl, hq⟩
    · have hkk : k = cs.length := by omega
      have hd : cs.drop k = [] := by rw [List.drop_eq_nil_iff]; omega
      rw [hd] at hRr
      have HR := Lib.hid hRr; clear hRr hd hR hE
      have HK := Lib.hid hkk; clear hkk
      go_wp2
      have h := HR.out
      rw [HK.out] at h
      exact h
end Go.Proofs.Ytgnigkghkldcfaa
