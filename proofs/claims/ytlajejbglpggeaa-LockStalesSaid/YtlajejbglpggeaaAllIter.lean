/-
  object.All: its iterator's contract: the names, rising, each with how many bytes it has.
-/
import Derived.Test.YtlajejbglpggeaaDrop
import Derived.Test.YtlajejbglpggeaaRange
import Derived.Test.YtlajejbglpggeaaSortLaw
namespace Go.Proofs.Ytlajejbglpggeaa
open Go.RowKit Go.Proofs Go.Lib Go.Maps Go.Sort Go.Shelf

abbrev encN (p : Bs × Nat) : Array Value := #[strV p.1, .int .i64 p.2]
def OS.list (s : OS) : List (Bs × Nat) := s.row.map fun r => (r.1, r.2.length)

theorem all_any (sb : Nat) (w : World) : Calls Try.prog 55 #[.pointer (some ⟨sb, 0, none⟩)] w fun e w' => e = .returned (.func (.func 67) #[] #[.pointer (some ⟨w.heap.size, 0, none⟩)]) ∧ w' = w.alloc (.cells #[.pointer (some ⟨sb, 0, none⟩)] 28) := by
  have hmf : ∀ (fn : Fn) (first cap : Array Value) (w : World), (Instr.makeFunc fn first cap).run Try.prog w = .ok (.func fn first cap) w := fun _ _ _ _ => rfl
  go_enter Try.func55, Try.ntmps55
  go_wp2
  go_ret
  exact ⟨rfl, rfl⟩

/-- what a round reads -/
theorem round_look {w wr : World} {sb : Nat} {G : OG} {s : OS} (hS : ObjAt w sb G s) (hm : wr.heap[G.mb]? = w.heap[G.mb]?) {k : Nat} {r : Bs × Bs} (hr : s.row[k]? = some r) :
    ∃ a c, (Instr.lookup 56 (.map (some G.mb)) (strV r.1) false).run Try.prog wr = .ok (.slice a r.2.length c) wr := by
  have hmem : r ∈ s.row := List.mem_of_getElem? hr
  have hn := (hS.ok.names r hmem).1
  have hsz : (⟨r.1.toArray⟩ : ByteArray).size ≤ maxLen := by
    unfold nameOK at hn
    simp at hn
    show r.1.toArray.size ≤ _
    rw [List.size_toArray]
    unfold maxLen; omega
  have hmap : MapAt wr G.mb G.ents := by
    obtain ⟨es, clock, hb, r⟩ := hS.map
    exact ⟨es, clock, hm.trans hb, r⟩
  have hlook := MapP.look Try.underlying9 Try.underlying56 hmap ⟨r.1.toArray⟩ hsz (zero_bytes wr)
  have hk : lk s.row r.1 = some r.2 := lk_of_mem hS.ok.rising hmem
  rcases lk_step hS.rows r.1 with ⟨h1, h2⟩ | ⟨v, l, h1, h2, h3⟩
  · rw [hk] at h2; cases h2
  · rw [hk] at h2; cases h2
    obtain ⟨_, a, c, e, _⟩ := h3
    refine ⟨a, c, ?_⟩
    have e2 : (lk G.ents r.1).getD (.slice none 0 0) = .slice a r.2.length c := by rw [h1, ← e]; rfl
    rw [← e2]
    exact hlook

theorem take_snoc {α : Type} {l : List α} {k : Nat} {x : α} (h : l[k]? = some x) : l.take (k + 1) = l.take k ++ [x] := by
  rw [List.take_add_one, h]; rfl
theorem list_at {s : OS} {k : Nat} {r : Bs × Bs} (h : s.row[k]? = some r) : s.list[k]? = some (r.1, r.2.length) := by simp [OS.list, h]

theorem all1_iter (n : Nat) (sb : Nat) (G : OG) (s : OS) (bp : Nat) (W : World) (hS : ObjAt W sb G s) (hbp : W.heap[bp]? = some (.cells #[.pointer (some ⟨sb, 0, none⟩)] 28 (0, 0))) :
    IterAt Try.prog n 67 #[.pointer (some ⟨bp, 0, none⟩)] encN s.list (fun k => k = sb ∨ k = G.mb ∨ k = bp) W := by
  intro l J Jx hJ0 hY
  have c1 : W.cell? ⟨bp, 0, none⟩ = some (.pointer (some ⟨sb, 0, none⟩)) := by rw [cell_blk hbp]; rfl
  have c0 : W.cell? ⟨sb, 0, none⟩ = some (.map (some G.mb)) := by rw [cell_blk hS.blk]; simp
  have hown : W.ownsMap Try.prog 9 heldR G.mb G.ents.length (entsD G.ents) := hS.map
  have hlen := hS.rows.length
  have hm := hS.ok.many
  have hsize : Maps.size (entsD G.ents) = s.row.length := by rw [← hlen]; simp [Maps.size, entsD]
  refine callsIn_of_wp Try.func67 rfl trivial ?_ rfl
  simp only [Try.ntmps67, List.size_toArray, List.length_cons, List.length_nil, Nat.reduceAdd, Nat.reduceSub, Array.replicate_succ, Array.replicate_zero, List.push_toArray, List.append_toArray, List.nil_append, List.cons_append]
  gi_wp2_with fail
  refine ⟨trivial, fun h => by simp [Fence.wide] at h, ?_⟩
  refine (callsIn_wide.2 (callsIn_wide.1 (Try.maps_Keys_69 (some G.mb) W))).mono ?_
  rintro e w1 ⟨rfl, rfl⟩
  gi_wp2_with fail
  refine ⟨trivial, fun h => by simp [Fence.wide] at h, ?_⟩
  refine (callsIn_wide.2 (callsIn_wide.1 (Try.slices_Sorted_keys_68_69 G.mb G.ents.length (entsD G.ents) heldR W hown (by rw [hsize]; unfold maxLen; omega) (by rw [hsize]; omega)))).mono ?_
  rintro e w2 ⟨v, ss, rfl, hperm, hrow, hnil, hbl⟩
  have hperm' : ss.Perm (s.row.map (·.1)) := by
    have e1 : strKeys (entsD G.ents) = s.row.map (·.1) := by
      rw [← All2.keys (fun _ _ h => h.1) hS.rows]
      simp only [entsD, strKeys, List.map_map]
      rfl
    rw [← e1]; exact hperm
  have hsort := names_sorted hS.ok.rising hperm'
  rw [hsort] at hrow
  have hl2 : ss.length = s.row.length := by rw [hperm'.length_eq]; simp
  rw [hl2] at hrow
  obtain ⟨a3, c3, rfl, hcell3, hpv3⟩ : ∃ a3 c3, v = .slice a3 s.row.length c3 ∧ (∀ k r, s.row[k]? = some r → ∃ g, a3 = some ⟨g, 0, none⟩ ∧ ∀ wr : World, wr.heap[g]? = w2.heap[g]? → wr.cell? ⟨g, k, none⟩ = some (strV r.1)) ∧
      (∀ g, a3 = some ⟨g, 0, none⟩ → W.heap.size ≤ g ∧ g < w2.heap.size) := by
    rcases hrow.2 with ⟨e1, e2⟩ | ⟨g, cap, cur, e1, hg, hh, _, _, _, ht⟩
    · refine ⟨none, 0, by rw [e1, e2], fun k r hr => ?_, fun g e => by cases e⟩
      have := (List.getElem?_eq_some_iff.1 hr).1
      omega
    · refine ⟨_, cap, e1, fun k r hr => ⟨g, rfl, fun wr hw => ?_⟩, fun g' e => by cases e; exact ⟨by simp at hg; omega, lt_blk hh⟩⟩
      rw [cell_blk (hw.trans hh)]
      have hk : k < s.row.length := (List.getElem?_eq_some_iff.1 hr).1
      have h5 : ((s.row.map (·.1)).map encStr)[k]? = some (strV r.1) := by simp [hr, strV]
      rw [← ht, List.getElem?_take, if_pos (by omega)] at h5
      simpa using h5
  have hbl' : Below W.heap.size W w2 := ((Below.refl _ W).alloc (Nat.le_refl _) _).trans (hbl.mono (by simp))
  obtain ⟨Pv, hPv⟩ : ∃ Pv : Nat → Prop, Pv = fun k => a3 = some ⟨k, 0, none⟩ := ⟨_, rfl⟩
  have hJ := hJ0 w2 Pv hbl' (fun k hk => hpv3 k (by rw [hPv] at hk; exact hk))
  have hlt1 := lt_blk hS.blk
  have hlt2 := MapP.lt hS.map
  have hlt3 := lt_blk hbp
  have HB := Lib.hid (⟨hbl'.block sb hlt1, hbl'.block G.mb hlt2, hbl'.block bp hlt3⟩ : w2.heap[sb]? = W.heap[sb]? ∧ w2.heap[G.mb]? = W.heap[G.mb]? ∧ w2.heap[bp]? = W.heap[bp]?)
  have HBP := Lib.hid hbp; have HS := Lib.hid hS; have HY := Lib.hid hY; have HC := Lib.hid hcell3; have HP := Lib.hid hPv
  obtain ⟨N, hN⟩ : ∃ N : Nat, N = s.row.length := ⟨_, rfl⟩
  rw [← hN] at hm ⊢
  have HN := Lib.hid hN
  clear hN hS hY hcell3 hPv hJ0 c1 c0 hown hlen hsize hbp hperm hperm' hrow hnil hbl hsort hl2 hpv3 hbl' hlt1 hlt2 hlt3
  gi_wp2
  gi_loopw [12] (fun v12 wr => ∃ k : Nat, v12 = .int .i64 k ∧ k ≤ N ∧ J Pv (s.list.take k) wr ∧ (∀ b, (Pv b ∨ b = sb ∨ b = G.mb ∨ b = bp) → wr.heap[b]? = w2.heap[b]?)) (fun v12 _ => N - (intOf v12).toNat)
  case atStart => exact ⟨0, rfl, Nat.zero_le _, hJ, fun _ _ => rfl⟩
  case round =>
    obtain ⟨k, rfl, hk, hJr, hBr⟩ := hrel
    by_cases hlt : k < N
    · obtain ⟨r, hr⟩ : ∃ r, s.row[k]? = some r := ⟨_, List.getElem?_eq_getElem (by rw [← HN.out]; exact hlt)⟩
      obtain ⟨g, rfl, hc⟩ := HC.out k r hr
      have hcell := hc wr (hBr g (.inl (by rw [HP.out])))
      obtain ⟨a4, c4, hlook⟩ := round_look (k := k) (r := r) HS.out ((hBr _ (.inr (.inr (.inl rfl)))).trans HB.out.2.1) hr
      have c1 : wr.cell? ⟨bp, 0, none⟩ = some (.pointer (some ⟨sb, 0, none⟩)) := by
        rw [cell_blk ((hBr _ (.inr (.inr (.inr rfl)))).trans (HB.out.2.2.trans HBP.out))]; rfl
      have c0 : wr.cell? ⟨sb, 0, none⟩ = some (.map (some G.mb)) := by
        rw [cell_blk ((hBr _ (.inr (.inl rfl))).trans (HB.out.1.trans HS.out.blk))]; rfl
      have htake : s.list.take (k + 1) = s.list.take k ++ [(r.1, r.2.length)] := by
        exact take_snoc (list_at hr)
      obtain ⟨fn, tmps, assign, body, hy, hR⟩ := HY.out Pv (s.list.take k) (r.1, r.2.length) wr hJr (by rw [← htake]; exact List.take_prefix _ _)
      dsimp only [encN, strV] at hy hcell hlook
      have HT := Lib.hid htake; have HR := Lib.hid hr; have HBR := Lib.hid hBr
      clear htake hr hc hBr hJr
      gi_wp2
      refine ⟨fun h => by simp [Fence.wide] at h, ?_⟩
      refine hR.mono ?_
      rintro e W3 (⟨rfl, hJ3, hk3⟩ | ⟨rfl, hx3⟩)
      · gi_wp2
        go_roundw
        case rel => exact ⟨k + 1, by go_num, by omega, by rw [HT.out]; exact hJ3, fun b hb => (hk3.2 b hb).trans (HBR.out b hb)⟩
        case measure => simp [intOf]; omega
      · gi_wp2
        refine bodyPost_ret (results_none rfl _ _ _) rfl ?_
        exact ⟨⟨_, rfl⟩, .inr ⟨_, by rw [← HT.out]; exact List.take_prefix _ _, hx3⟩⟩
    · have hkN : k = N := by omega
      have HK := Lib.hid hkN; clear hkN
      gi_wp2
      go_end0
      refine ⟨⟨_, rfl⟩, .inl ⟨Pv, ?_⟩⟩
      have e1 : s.list.take k = s.list := by rw [List.take_of_length_le]; simp [OS.list]; rw [← HN.out, HK.out]; exact Nat.le_refl _
      rw [e1] at hJr
      exact hJr
end Go.Proofs.Ytlajejbglpggeaa
