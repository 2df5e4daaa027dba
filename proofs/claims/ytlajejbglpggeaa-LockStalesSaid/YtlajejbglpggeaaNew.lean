/-
  object.New and object.Arm.
-/
import Derived.Test.YtlajejbglpggeaaStore
namespace Go.Proofs.Ytlajejbglpggeaa
open Go.RowKit Go.Proofs Go.Lib

def OS.new (q : Int) : OS := { row := [], quota := q, ops := 0, left := -1, faults := [] }

theorem run_makeMap_any (w : World) : (Instr.makeMap 56 none).run Try.prog w = .ok (.map (some w.heap.size)) (w.alloc (.map #[] 0)) := by
  simp [Instr.makeMap, go_sem]

def NewSt (q : Int) (w : World) (e : Ending) (w' : World) : Prop :=
  ∃ sb, e = .returned (.tuple #[.pointer (some ⟨sb, 0, none⟩), .int .i64 0]) ∧ St w' sb (.pointer none) (fun b => w.heap.size ≤ b ∧ b < w'.heap.size) (.new q) ∧ Keep (fun _ => False) w w'

theorem new_arg (q : Int) (w : World) (hq : q < 0) : Calls Try.prog 10 #[.int .i64 q] w fun e w' => e = .returned (.tuple #[.pointer none, .int .i64 1]) ∧ w = w' := by
  go_enter Try.func10, Try.ntmps10
  go_wp2
  go_ret2
  exact ⟨rfl, rfl⟩

theorem new_any (q : Int) (w : World) (h0 : 0 ≤ q) (h1 : q ≤ 9223372036854775807) : Calls Try.prog 10 #[.int .i64 q] w (NewSt q w) := by
  have fin : NewSt q w (.returned (.tuple #[.pointer (some ⟨w.heap.size + 1, 0, none⟩), .int .i64 0])) ((w.alloc (.map #[] 0)).alloc (.cells #[.map (some w.heap.size), .int .i64 q, .int .i64 0, .int .i64 0, .pointer none, .slice none 0 0] 59)) := by
    have hb := alloc_new (w.alloc (.map #[] 0)) (.cells #[.map (some w.heap.size), .int .i64 q, .int .i64 0, .int .i64 0, .pointer none, .slice none 0 0] 59)
    rw [World.size_alloc] at hb
    refine ⟨w.heap.size + 1, rfl, ⟨{ mb := w.heap.size, ents := [], fuse := .pointer none, faults := .slice none 0 0 }, ⟨hb, ?_, trivial, .inl ⟨rfl, rfl⟩, Sl.nil _ _, ⟨⟨h0, h1⟩, by simpa [sizeR, OS.new] using h0, by simp [OS.new], by simp [OS.new, Rising], by simp [OS.new], by simp [OS.new]⟩⟩, rfl, by simp, ?_, fun b hb => hb.2⟩, ((Keep.refl _ w).alloc _).alloc _⟩
    · exact MapP.keep (F := fun _ => False) (MapP.made w) ((Keep.refl _ _).alloc _) (fun e => e)
    · intro b hb
      simp only [OG.live, vblk, vlive, List.not_mem_nil, false_and, exists_false, or_false, reduceCtorEq] at hb
      subst hb
      simp
      omega
  have HF := Lib.hid fin
  clear fin
  have hmk := run_makeMap_any
  go_enter Try.func10, Try.ntmps10
  go_wp2
  go_ret2
  exact HF.out

def OS.arm (s : OS) (n : Int) (l : List Bool) : OS := { s with left := n, faults := l }

def ArmSt (sb : Nat) (f : Value) (S : Nat → Prop) (s : OS) (w : World) (e : Ending) (w' : World) : Prop :=
  ∃ S', e = .returned (.tuple #[]) ∧ St w' sb f S' s ∧ Keep (· = sb) w w' ∧ ∀ b, S' b → S b ∨ vblk f = some b ∨ w.heap.size ≤ b

theorem arm_any {w : World} {sb : Nat} {f0 : Value} {S : Nat → Prop} {s : OS} (h : St w sb f0 S s) (f : Value) (n : Int) (hf : FuseIs w f n) (v : Value) (l : List Bool) (hv : Sl w 1 v l.length (l.map .bool)) (hl : l.length ≤ 140737488355328) :
    Calls Try.prog 16 #[.pointer (some ⟨sb, 0, none⟩), f, v] w (ArmSt sb f S (s.arm n l) w) := by
  have HC := cloneL_any w v l hv hl
  have hfp : ∃ p, f = .pointer p := by
    rcases hf with ⟨e, _⟩ | ⟨fb, e, _⟩
    · exact ⟨_, e⟩
    · exact ⟨_, e⟩
  obtain ⟨p, rfl⟩ := hfp
  obtain ⟨a, nn, c, rfl⟩ : ∃ a n c, v = .slice a n c := let ⟨_, a, c, e, _⟩ := hv; ⟨a, _, c, e⟩
  obtain ⟨G, h1, rfl, h3, h4, h5⟩ := h
  have HF := Lib.hid hf; have HO := Lib.hid h1; have H4 := Lib.hid h4; have H5 := Lib.hid h5
  clear hf h1 h4 h5 hv
  go_enter Try.func16, Try.ntmps16
  go_wp2_with fail
  refine HC.mono ?_
  rintro e w1 ⟨v1, rfl, hs1, hn1, hb1⟩
  obtain ⟨a1, n1, c1, rfl⟩ : ∃ a n c, v1 = .slice a n c := let ⟨_, a, c, e, _⟩ := hs1; ⟨a, _, c, e⟩
  have h1 := HO.out.below hb1
  have f4 := frozen_blk h1.blk 4
  have f5 := frozen_blk h1.blk 5
  have c4 := cell_blk h1.blk 4
  have c5 := cell_blk h1.blk 5
  simp at c4 c5
  have hk : Keep (· = sb) w1 ((w1.setCell ⟨sb, 4, none⟩ (.pointer p)).setCell ⟨sb, 5, none⟩ (.slice a1 n1 c1)) := ((Keep.refl (· = sb) w1).setCell (p := ⟨sb, 4, none⟩) (fun _ => rfl) _).setCell (p := ⟨sb, 5, none⟩) (fun _ => rfl) (.slice a1 n1 c1)
  have hkk : Keep (· = sb) w ((w1.setCell ⟨sb, 4, none⟩ (.pointer p)).setCell ⟨sb, 5, none⟩ (.slice a1 n1 c1)) := (Keep.of_below hb1 _).trans hk
  have fin : ArmSt sb (.pointer p) S (s.arm n l) w (.returned (.tuple #[])) ((w1.setCell ⟨sb, 4, none⟩ (.pointer p)).setCell ⟨sb, 5, none⟩ (.slice a1 n1 c1)) := by
    refine ⟨fun b => S b ∨ vblk (.pointer p) = some b ∨ vlive (.slice a1 n1 c1) = some b, rfl, ⟨{ G with fuse := .pointer p, faults := .slice a1 n1 c1 }, ⟨?_, ?_, ?_, ?_, ?_, ?_⟩, rfl, .inl h3, ?_, ?_⟩, hkk, ?_⟩
    · rw [set_blk (set_blk h1.blk 4 _) 5]
      simp [OS.arm]
    · exact MapP.keep h1.map hk (fun e => MapP.ne h1.map h1.blk e)
    · refine h1.rows.imp (fun a ha b _ hab => ⟨hab.1, hab.2.keep hk (fun b' hn e hb' => ?_)⟩)
      subst hb'
      exact BytesAt.ne_cells hab.2 h1.blk (fun y i => by
        obtain ⟨_, a1, c1, e3, _⟩ := h1.faults
        rcases h1.fuse with ⟨e1, _⟩ | ⟨fb, e1, _⟩ <;> rw [e1, e3] <;>
        (match i with
         | 0 | 1 | 2 | 3 | 4 | 5 => simp
         | i + 6 => simp)) hn e
    · have hf1 : FuseIs w1 (.pointer p) n := HF.out.keep (Keep.of_below hb1 (fun _ => False)) (fun _ _ e => e)
      refine hf1.keep hk (fun fb e => ?_)
      rintro rfl
      rcases hf1 with ⟨e1, _⟩ | ⟨fb', e1, hF⟩
      · rw [e1] at e; cases e
      · rw [e1] at e; cases e
        have := hF.1.symm.trans h1.blk
        simp at this
    · refine Sl.keep hs1 hk (fun b hn e hb' => ?_)
      have := hn1 b e
      have := H5.out _ h3
      omega
    · exact ⟨h1.ok.quota, h1.ok.size, h1.ok.ops, h1.ok.rising, h1.ok.names, h1.ok.many⟩
    · intro b hb
      rcases hb with e | e | e | e
      · exact .inl (H4.out _ (.inl e))
      · exact .inr (.inl e)
      · exact .inr (.inr e)
      · exact .inl (H4.out _ (.inr (.inr (.inr e))))
    · rintro b (hb | hb | hb)
      · exact Nat.lt_of_lt_of_le (H5.out b hb) hkk.size
      · rcases HF.out with ⟨e1, _⟩ | ⟨fb, e1, hF⟩
        · rw [e1] at hb; simp [vblk] at hb
        · rw [e1] at hb; simp [vblk] at hb; subst hb
          exact Nat.lt_of_lt_of_le (lt_blk hF.1) hkk.size
      · have := Sl.lt hs1 (by decide) (Sl.pos hs1 hb) (vlive_blk hb)
        exact Nat.lt_of_lt_of_le this hk.size
    · rintro b (hb | hb | hb)
      · exact .inl hb
      · exact .inr (.inl hb)
      · exact .inr (.inr (hn1 b (vlive_blk hb)))
  have HFF := Lib.hid fin
  clear fin hkk hk
  go_wp2
  go_end0
  exact HFF.out
end Go.Proofs.Ytlajejbglpggeaa
