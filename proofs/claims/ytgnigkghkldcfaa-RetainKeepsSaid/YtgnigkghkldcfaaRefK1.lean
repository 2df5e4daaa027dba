/-
  coldstoreref03.Less, coldstoreref11.Less, coldstoreref19.behind.
-/
import Derived.Test.YtgnigkghkldcfaaRetLaw
import Derived.Stop.BytesEq
namespace Go.Proofs.Ytgnigkghkldcfaa
open Go.RowKit Go.Proofs Go.Lib Go.Maps Go.Sort Go.Shelf

theorem before_first : ∀ (k : Nat) (x y : Bs) (a b : UInt8), x.take k = y.take k → x[k]? = some a → y[k]? = some b → a ≠ b → bytesBefore x y = decide (a < b)
  | 0, [], _, _, _, _, h, _, _ => by simp at h
  | 0, _ :: _, [], _, _, _, _, h, _ => by simp at h
  | 0, c :: r, d :: s, a, b, _, h1, h2, hn => by
    simp at h1 h2
    subst h1; subst h2
    unfold bytesBefore
    by_cases hlt : c < d
    · simp [hlt]
    · simp [hlt, hn]
  | k + 1, [], _, _, _, _, h, _, _ => by simp at h
  | k + 1, _ :: _, [], _, _, _, _, h, _ => by simp at h
  | k + 1, c :: r, d :: s, a, b, h, h1, h2, hn => by
    simp only [List.take_succ_cons, List.cons.injEq] at h
    obtain ⟨rfl, h⟩ := h
    simp only [List.getElem?_cons_succ] at h1 h2
    have ih := before_first k r s a b h h1 h2 hn
    unfold bytesBefore
    simp [ih]

/-- which of two is ahead, as the document has it -/
def lessR (a b : SnapR) : Bool :=
  if a.time = b.time then if a.host = b.host then if a.tag = b.tag then if a.root = b.root then if a.files = b.files then decide (a.bytes < b.bytes) else decide (a.files < b.files) else bytesBefore a.root b.root else bytesBefore a.tag b.tag else bytesBefore a.host b.host else decide (a.time < b.time)
theorem cmpI_neg {x y : Int} (h : x ≠ y) : decide (cmpI x y < 0) = decide (x < y) := by
  unfold cmpI; by_cases e : x < y
  · simp [e]
  · have : y < x := by omega
    simp [e, this]
theorem cmpB_neg {x y : Bs} (h : x ≠ y) : decide (cmpB x y < 0) = bytesBefore x y := by
  rcases cmpB_cases x y with ⟨h1, h2, h3⟩ | ⟨h1, h3⟩ | ⟨h1, h2, h3⟩
  · rw [h3, h1]; rfl
  · exact absurd h1 h
  · rw [h3, h2]; rfl
theorem cmpI_ne {x y : Int} (h : x ≠ y) : cmpI x y ≠ 0 := fun e => h (cmpI_zero e)
theorem cmpB_ne {x y : Bs} (h : x ≠ y) : cmpB x y ≠ 0 := fun e => h (cmpB_zero e)
theorem cmpI_self (x : Int) : cmpI x x = 0 := by unfold cmpI; simp
theorem cmpB_self (x : Bs) : cmpB x x = 0 := by
  rcases cmpB_cases x x with ⟨h1, h2, _⟩ | ⟨_, h3⟩ | ⟨h1, h2, _⟩
  · rw [h1] at h2; cases h2
  · exact h3
  · rw [h1] at h2; cases h2
theorem lessR_is (a b : SnapR) : lessR a b = decide (cmpS a b < 0) := by
  by_cases e1 : a.time = b.time
  · unfold lessR cmpS
    rw [if_pos e1, e1]
    simp only [orI, cmpI_self, if_true]
    by_cases e2 : a.host = b.host
    · rw [if_pos e2, e2]
      simp only [cmpB_self, if_true]
      by_cases e3 : a.tag = b.tag
      · rw [if_pos e3, e3]
        simp only [cmpB_self, if_true]
        by_cases e4 : a.root = b.root
        · rw [if_pos e4, e4]
          simp only [cmpB_self, if_true]
          by_cases e5 : a.files = b.files
          · rw [if_pos e5, e5]
            simp only [cmpI_self, if_true]
            by_cases e6 : a.bytes = b.bytes
            · rw [e6]; simp [cmpI_self]
            · rw [if_neg (cmpI_ne e6), cmpI_neg e6]
          · rw [if_neg e5, if_neg (cmpI_ne e5), cmpI_neg e5]
        · rw [if_neg e4, if_neg (cmpB_ne e4), cmpB_neg e4]
      · rw [if_neg e3, if_neg (cmpB_ne e3), cmpB_neg e3]
    · rw [if_neg e2, if_neg (cmpB_ne e2), cmpB_neg e2]
  · have e : cmpS a b = cmpI a.time b.time := by unfold cmpS; simp only [orI]; rw [if_neg (cmpI_ne e1)]
    rw [e, cmpI_neg e1]
    unfold lessR
    rw [if_neg e1]

/-- a value of many cells laid into a box of its own -/
theorem wpList_box_any {P : Program} {ops : Array Oper} {rest : List Oper} {o : Oper} {a : Act} {W : World} {Q : Exit → Act → World → Prop} (hg : o.guard = none) (T : TypeId) (x : Operand) (ho : o.op = .box T x) (A : Array Value) (hx : a.eval x = .agg A)
    (h : ∀ W', W'.heap[W.heap.size]? = some (.cells A T (0, 0)) → Keep (fun _ => False) W W' → W'.heap.size = W.heap.size + 1 → wpList P ops Q rest (a.put o.dst (.pointer (some ⟨W.heap.size, 0, none⟩))) W') : wpList P ops Q (o :: rest) a W := by
  have hr : (Instr.box T (.agg A)).run P W = .ok (.pointer (some ⟨W.heap.size, 0, none⟩)) (W.alloc (.cells A T)) := by simp [Instr.box, go_sem, Value.cells]
  have := h (W.alloc (.cells A T)) (alloc_new _ _) ((Keep.refl _ W).alloc _) (by simp)
  refine wpList_plain hg fun K hK => ?_
  unfold Oper.wp execOp
  simp only [ho, hx, Sem.run_bind, hr, Result.andThen_ok]
  exact hK _ _ this

set_option maxRecDepth 100000 in
set_option maxHeartbeats 4000000 in
theorem r3less_any {x y : Bs} (hx : x.length = 32) (hy : y.length = 32) (w : World) : Calls Try.prog 156 #[.agg (bytesV x).toArray, .agg (bytesV y).toArray] w fun e w' => e = .returned (.bool (bytesBefore x y)) ∧ Keep (fun _ => False) w w' := by
  obtain ⟨X, hX⟩ : ∃ X, X = (bytesV x).toArray := ⟨_, rfl⟩
  obtain ⟨Y, hY⟩ : ∃ Y, Y = (bytesV y).toArray := ⟨_, rfl⟩
  rw [← hX, ← hY]
  have HX := Lib.hid hX; have HY := Lib.hid hY
  clear hX hY
  go_enter Try.func156, Try.ntmps156
  go_wp2_with (first | (refine wpList_box_any rfl 106 (.tmp 0) rfl X rfl ?_; intro W1 b1 k1 z1) | (refine wpList_box_any rfl 106 (.tmp 1) rfl Y rfl ?_; intro W2 b2 k2 z2))
  have bX := k2.heap b1 id
  rw [z1] at b2
  have HBX := Lib.hid bX; have HBY := Lib.hid b2; have HK := Lib.hid (k1.trans k2)
  clear b1 b2 k1 k2 z1 z2 bX
  go_loopg [5] 32 (fun g v5 wr => ∃ k : Nat, k ≤ 32 ∧ g = 32 - k ∧ v5 = .int .i64 k ∧ Hid (x.take k = y.take k) ∧ Hid (Keep (fun _ => False) W2 wr))
  case atStart => exact ⟨0, by decide, rfl, rfl, rfl, Keep.refl _ _⟩
  case round =>
    obtain ⟨k, hk, hg, rfl, HT, HKW⟩ := hrel
    by_cases hlt : k < 32
    · obtain ⟨a, ha⟩ : ∃ a, x[k]? = some a := ⟨_, List.getElem?_eq_getElem (by omega)⟩
      obtain ⟨b, hb⟩ : ∃ b, y[k]? = some b := ⟨_, List.getElem?_eq_getElem (by omega)⟩
      have ca : wr.cell? ⟨w.heap.size, k, none⟩ = some (.int .u8 (a.toNat : Int)) := by
        rw [cell_blk (HKW.out.heap HBX.out id), HX.out, List.getElem?_toArray]; simp [bytesV, ha]
      have cb : wr.cell? ⟨w.heap.size + 1, k, none⟩ = some (.int .u8 (b.toNat : Int)) := by
        rw [cell_blk (HKW.out.heap HBY.out id), HY.out, List.getElem?_toArray]; simp [bytesV, hb]
      obtain ⟨za, hza⟩ : ∃ za, za = (a.toNat : Int) := ⟨_, rfl⟩
      obtain ⟨zb, hzb⟩ : ∃ zb, zb = (b.toNat : Int) := ⟨_, rfl⟩
      rw [← hza] at ca; rw [← hzb] at cb
      have i1 : (0 : Int) ≤ k := by omega
      have i2 : (k : Int) < 32 := by omega
      have HA := Lib.hid ha; have HB := Lib.hid hb; have HZA := Lib.hid hza; have HZB := Lib.hid hzb; have HG := Lib.hid hg; have HLT := Lib.hid hlt
      clear ha hb hza hzb hg hlt hk hx hy
      by_cases hab : a = b
      · have e : (za == zb) = true := by rw [HZA.out, HZB.out, hab]; simp
        have HT2 := Lib.hid (show x.take (k + 1) = y.take (k + 1) by rw [take_snoc HA.out, take_snoc HB.out, HT.out, hab])
        clear hab
        go_wp2_with fail
        go_still (by kernel_rfl)
        go_wp2
        go_roundg (32 - (k + 1))
        case measure => have := HG.out; have := HLT.out; omega
        case rel => exact ⟨k + 1, HLT.out, rfl, by go_num, HT2.out, HKW.out.drew⟩
      · have e : (za == zb) = false := by
          rw [HZA.out, HZB.out, beq_eq_false_iff_ne]
          intro h
          exact hab (UInt8.toNat_inj.1 (by omega))
        have hr := before_first k x y a b HT.out HA.out HB.out hab
        have hd : decide (za < zb) = decide (a < b) := by
          rw [HZA.out, HZB.out]
          apply decide_eq_decide.2
          rw [UInt8.lt_iff_toNat_lt]; omega
        rw [← hd] at hr
        have HR := Lib.hid hr
        have HKF := Lib.hid (HK.out.trans HKW.out)
        clear hab hr hd HT HA HB HZA HZB
        go_wp2_with fail
        go_still (by kernel_rfl)
        go_wp2_with fail
        have ca' : wr.drew.cell? ⟨w.heap.size, k, none⟩ = some (.int .u8 za) := ca
        have cb' : wr.drew.cell? ⟨w.heap.size + 1, k, none⟩ = some (.int .u8 zb) := cb
        have HKF2 := Lib.hid HKF.out.drew
        change Code.wp _ _ _ _ wr.drew
        generalize wr.drew = W9 at ca' cb' HKF2 ⊢
        clear ca cb HKF
        go_still (by kernel_rfl)
        go_wp2
        go_ret
        exact ⟨by rw [HR.out]; rfl, HKF2.out.drew⟩
    · have hk32 : k = 32 := by omega
      subst hk32
      have hxy : x = y := by
        have := HT.out
        rw [List.take_of_length_le (by omega), List.take_of_length_le (by omega)] at this
        exact this
      have HKF := Lib.hid (HK.out.trans HKW.out)
      have HXY := Lib.hid hxy
      clear hxy hg hk hlt HKW
      go_wp2
      go_ret
      exact ⟨by rw [HXY.out, before_irrefl]; rfl, HKF.out⟩

theorem mid_bytes {s : SnapR} (h : s.root.length = 32) : ∀ (j : Nat) (v : Value), (bytesV s.root)[j]? = some v → (snapCells s).toArray[3 + j]? = some v := by
  intro j v hv
  have hj : j < 32 := by have := (List.getElem?_eq_some_iff.1 hv).1; rwa [bytesV_len, h] at this
  rw [List.getElem?_toArray, (snap_at h).2.2 j hj]; exact hv
theorem cellsIDs : (Try.prog.info? 106).map (·.size) = some 32 := by kernel_rfl
theorem bytes_eq_run {x y : Bs} (hx : x.length = 32) (hy : y.length = 32) (W : World) : (Op.equalIn 10000 106 (.agg (bytesV x).toArray) (.agg (bytesV y).toArray)).run Try.prog W = .ok (x == y) W := by
  have hsz : ∀ w, (sizeOf 5).run Try.prog w = .ok 1 w := by
    intro w
    have h1 : (Try.prog.info? 5).map (·.size) = some 1 := by kernel_rfl
    obtain ⟨i, hi, hs⟩ := Option.map_eq_some_iff.1 h1
    simp [sizeOf, typeInfo, hi, hs]
  exact run_equalIn_bytes W 9998 106 5 32 Try.underlying106 Try.underlying5 hsz x y hx hy

set_option maxRecDepth 100000 in
set_option maxHeartbeats 8000000 in
theorem r11less_any {a b : SnapR} (ha : a.root.length = 32) (hb : b.root.length = 32) (w : World) : Calls Try.prog 133 #[.agg (snapCells a).toArray, .agg (snapCells b).toArray] w fun e w' => e = .returned (.bool (lessR a b)) ∧ Keep (fun _ => False) w w' := by
  obtain ⟨X, hX⟩ : ∃ X, X = (snapCells a).toArray := ⟨_, rfl⟩
  obtain ⟨Y, hY⟩ : ∃ Y, Y = (snapCells b).toArray := ⟨_, rfl⟩
  obtain ⟨RX, hRX⟩ : ∃ RX, RX = (bytesV a.root).toArray := ⟨_, rfl⟩
  obtain ⟨RY, hRY⟩ : ∃ RY, RY = (bytesV b.root).toArray := ⟨_, rfl⟩
  have hEq := bytes_eq_run ha hb
  have h3 := r3less_any ha hb
  rw [← hRX, ← hRY] at hEq h3
  have mx := mid_bytes ha
  have my := mid_bytes hb
  have xa := snap_at ha
  have xb := snap_at hb
  rw [← hX, ← hY]
  rw [← hX] at mx; rw [← hY] at my
  have X0 : X[0]? = some (.int .i64 a.time) := by rw [hX]; rfl
  have Y0 : Y[0]? = some (.int .i64 b.time) := by rw [hY]; rfl
  have X1 : X[1]? = some (strV a.host) := by rw [hX]; rfl
  have Y1 : Y[1]? = some (strV b.host) := by rw [hY]; rfl
  have X2 : X[2]? = some (strV a.tag) := by rw [hX]; rfl
  have Y2 : Y[2]? = some (strV b.tag) := by rw [hY]; rfl
  have X4 : X[35]? = some (.int .i64 a.files) := by rw [hX, List.getElem?_toArray]; exact xa.1
  have Y4 : Y[35]? = some (.int .i64 b.files) := by rw [hY, List.getElem?_toArray]; exact xb.1
  have X5 : X[36]? = some (.int .i64 a.bytes) := by rw [hX, List.getElem?_toArray]; exact xa.2.1
  have Y5 : Y[36]? = some (.int .i64 b.bytes) := by rw [hY, List.getElem?_toArray]; exact xb.2.1
  unfold strV at X1 X2 Y1 Y2
  have hLX : ∀ (W : World) (g : Nat), W.heap[g]? = some (.cells X 161 (0, 0)) → (Instr.loadAt 106 (.pointer (some ⟨g, 3, none⟩))).run Try.prog W = .ok (.agg RX) W := fun W g h => by
    rw [hRX]
    exact run_loadAt_mid (P := Try.prog) W g 3 106 (bytesV a.root) _ (fun j v hv => by rw [cell_blk h]; exact mx j v hv) Try.underlying106 rfl (by rw [bytesV_len, ha]; exact cellsIDs)
  have hLY : ∀ (W : World) (g : Nat), W.heap[g]? = some (.cells Y 161 (0, 0)) → (Instr.loadAt 106 (.pointer (some ⟨g, 3, none⟩))).run Try.prog W = .ok (.agg RY) W := fun W g h => by
    rw [hRY]
    exact run_loadAt_mid (P := Try.prog) W g 3 106 (bytesV b.root) _ (fun j v hv => by rw [cell_blk h]; exact my j v hv) Try.underlying106 rfl (by rw [bytesV_len, hb]; exact cellsIDs)
  have sEq : ∀ p q : Bs, ((⟨p.toArray⟩ : ByteArray).toList == (⟨q.toArray⟩ : ByteArray).toList) = (p == q) := fun p q => by rw [toList_data, toList_data]
  have sLt : ∀ p q : Bs, Op.bytesLess (⟨p.toArray⟩ : ByteArray).toList (⟨q.toArray⟩ : ByteArray).toList = bytesBefore p q := fun p q => by rw [less_is, toList_data, toList_data]
  have eh := sEq a.host b.host
  have et := sEq a.tag b.tag
  have lh := sLt a.host b.host
  have lt := sLt a.tag b.tag
  obtain ⟨ah, hah⟩ : ∃ ah, ah = (⟨a.host.toArray⟩ : ByteArray) := ⟨_, rfl⟩
  obtain ⟨bh, hbh⟩ : ∃ bh, bh = (⟨b.host.toArray⟩ : ByteArray) := ⟨_, rfl⟩
  obtain ⟨tga, htga⟩ : ∃ tga, tga = (⟨a.tag.toArray⟩ : ByteArray) := ⟨_, rfl⟩
  obtain ⟨tgb, htgb⟩ : ∃ tgb, tgb = (⟨b.tag.toArray⟩ : ByteArray) := ⟨_, rfl⟩
  rw [← hah] at X1 eh lh; rw [← hbh] at Y1 eh lh; rw [← htga] at X2 et lt; rw [← htgb] at Y2 et lt
  have HX0 := Lib.hid X0; have HX1 := Lib.hid X1; have HX2 := Lib.hid X2; have HX4 := Lib.hid X4; have HX5 := Lib.hid X5
  have HY0 := Lib.hid Y0; have HY1 := Lib.hid Y1; have HY2 := Lib.hid Y2; have HY4 := Lib.hid Y4; have HY5 := Lib.hid Y5
  have HLX := Lib.hid hLX; have HLY := Lib.hid hLY; have H3 := Lib.hid h3
  have hless : lessR a b = lessR a b := rfl
  conv at hless => rhs; unfold lessR
  have HEQ := Lib.hid hEq; have EH := Lib.hid eh; have ET := Lib.hid et; have LH := Lib.hid lh; have LT := Lib.hid lt
  obtain ⟨res, hres⟩ : ∃ res, res = lessR a b := ⟨_, rfl⟩
  rw [← hres] at hless ⊢
  have HRES := Lib.hid hless
  clear hX hY hRX hRY hEq h3 mx my xa xb X0 X1 X2 X4 X5 Y0 Y1 Y2 Y4 Y5 hLX hLY sEq sLt eh et lh lt hah hbh htga htgb hless hres ha hb
  have fin : ∀ (r : Bool), res = r → True := fun _ _ => trivial
  clear fin
  by_cases e1 : a.time = b.time
  · have q1 : (a.time == b.time) = true := by simpa using e1
    by_cases e2 : a.host = b.host
    · have q2 : (ah.toList == bh.toList) = true := by rw [EH.out]; simpa using e2
      by_cases e3 : a.tag = b.tag
      · have q3 : (tga.toList == tgb.toList) = true := by rw [ET.out]; simpa using e3
        by_cases e4 : a.root = b.root
        · have q4 : ∀ W, (Op.equalIn 10000 106 (.agg RX) (.agg RY)).run Try.prog W = .ok true W := fun W => by rw [HEQ.out W]; congr 1; simpa using e4
          by_cases e5 : a.files = b.files
          · have q5 : (a.files == b.files) = true := by simpa using e5
            have hr : res = decide (a.bytes < b.bytes) := by rw [HRES.out, if_pos e1, if_pos e2, if_pos e3, if_pos e4, if_pos e5]
            have HR := Lib.hid hr
            clear hr e1 e2 e3 e4 e5
            go_enter Try.func133, Try.ntmps133
            go_wp2_with (first | (refine wpList_box_any rfl 161 (.tmp 0) rfl X rfl ?_; intro W1 b1 k1 z1) | (refine wpList_box_any rfl 161 (.tmp 1) rfl Y rfl ?_; intro W2 b2 k2 z2; rw [z1] at b2; have bx := k2.heap b1 id; have c0 := (cell_blk bx 0).trans HX0.out; have d0 := (cell_blk b2 0).trans HY0.out; have c1 := (cell_blk bx 1).trans HX1.out; have d1 := (cell_blk b2 1).trans HY1.out; have c2 := (cell_blk bx 2).trans HX2.out; have d2 := (cell_blk b2 2).trans HY2.out; have c4 := (cell_blk bx 35).trans HX4.out; have d4 := (cell_blk b2 35).trans HY4.out; have c5 := (cell_blk bx 36).trans HX5.out; have d5 := (cell_blk b2 36).trans HY5.out; have HLX2 := Lib.hid (HLX.out _ _ bx); have HLY2 := Lib.hid (HLY.out _ _ b2); have HK := Lib.hid (k1.trans k2); clear bx b1 b2 k1 k2 z2) | (refine wpList_load_run rfl 106 (.tmp 35) rfl _ rfl _ HLX2.out ?_) | (refine wpList_load_run rfl 106 (.tmp 37) rfl _ rfl _ HLY2.out ?_) | (refine wpList_load_run rfl 106 (.tmp 40) rfl _ rfl _ HLX2.out ?_) | (refine wpList_load_run rfl 106 (.tmp 42) rfl _ rfl _ HLY2.out ?_))
            go_ret
            exact ⟨by rw [HR.out]; rfl, HK.out⟩
          · have q5 : (a.files == b.files) = false := by simpa using e5
            have hr : res = decide (a.files < b.files) := by rw [HRES.out, if_pos e1, if_pos e2, if_pos e3, if_pos e4, if_neg e5]
            have HR := Lib.hid hr
            clear hr e1 e2 e3 e4 e5
            go_enter Try.func133, Try.ntmps133
            go_wp2_with (first | (refine wpList_box_any rfl 161 (.tmp 0) rfl X rfl ?_; intro W1 b1 k1 z1) | (refine wpList_box_any rfl 161 (.tmp 1) rfl Y rfl ?_; intro W2 b2 k2 z2; rw [z1] at b2; have bx := k2.heap b1 id; have c0 := (cell_blk bx 0).trans HX0.out; have d0 := (cell_blk b2 0).trans HY0.out; have c1 := (cell_blk bx 1).trans HX1.out; have d1 := (cell_blk b2 1).trans HY1.out; have c2 := (cell_blk bx 2).trans HX2.out; have d2 := (cell_blk b2 2).trans HY2.out; have c4 := (cell_blk bx 35).trans HX4.out; have d4 := (cell_blk b2 35).trans HY4.out; have c5 := (cell_blk bx 36).trans HX5.out; have d5 := (cell_blk b2 36).trans HY5.out; have HLX2 := Lib.hid (HLX.out _ _ bx); have HLY2 := Lib.hid (HLY.out _ _ b2); have HK := Lib.hid (k1.trans k2); clear bx b1 b2 k1 k2 z2) | (refine wpList_load_run rfl 106 (.tmp 35) rfl _ rfl _ HLX2.out ?_) | (refine wpList_load_run rfl 106 (.tmp 37) rfl _ rfl _ HLY2.out ?_) | (refine wpList_load_run rfl 106 (.tmp 40) rfl _ rfl _ HLX2.out ?_) | (refine wpList_load_run rfl 106 (.tmp 42) rfl _ rfl _ HLY2.out ?_))
            go_ret
            exact ⟨by rw [HR.out]; rfl, HK.out⟩
        · have q4 : ∀ W, (Op.equalIn 10000 106 (.agg RX) (.agg RY)).run Try.prog W = .ok false W := fun W => by rw [HEQ.out W]; congr 1; simpa using e4
          have hr : res = bytesBefore a.root b.root := by rw [HRES.out, if_pos e1, if_pos e2, if_pos e3, if_neg e4]
          have HR := Lib.hid hr
          clear hr e1 e2 e3 e4
          go_enter Try.func133, Try.ntmps133
          go_wp2_with (first | (refine wpList_box_any rfl 161 (.tmp 0) rfl X rfl ?_; intro W1 b1 k1 z1) | (refine wpList_box_any rfl 161 (.tmp 1) rfl Y rfl ?_; intro W2 b2 k2 z2; rw [z1] at b2; have bx := k2.heap b1 id; have c0 := (cell_blk bx 0).trans HX0.out; have d0 := (cell_blk b2 0).trans HY0.out; have c1 := (cell_blk bx 1).trans HX1.out; have d1 := (cell_blk b2 1).trans HY1.out; have c2 := (cell_blk bx 2).trans HX2.out; have d2 := (cell_blk b2 2).trans HY2.out; have c4 := (cell_blk bx 35).trans HX4.out; have d4 := (cell_blk b2 35).trans HY4.out; have c5 := (cell_blk bx 36).trans HX5.out; have d5 := (cell_blk b2 36).trans HY5.out; have HLX2 := Lib.hid (HLX.out _ _ bx); have HLY2 := Lib.hid (HLY.out _ _ b2); have HK := Lib.hid (k1.trans k2); clear bx b1 b2 k1 k2 z2) | (refine wpList_load_run rfl 106 (.tmp 35) rfl _ rfl _ HLX2.out ?_) | (refine wpList_load_run rfl 106 (.tmp 37) rfl _ rfl _ HLY2.out ?_) | (refine wpList_load_run rfl 106 (.tmp 40) rfl _ rfl _ HLX2.out ?_) | (refine wpList_load_run rfl 106 (.tmp 42) rfl _ rfl _ HLY2.out ?_))
          refine (H3.out _).mono ?_
          rintro e W5 ⟨rfl, k5⟩
          have HK5 := Lib.hid (HK.out.trans k5)
          clear k5
          go_wp2
          go_ret
          exact ⟨by rw [HR.out]; rfl, HK5.out⟩
      · have q3 : (tga.toList == tgb.toList) = false := by rw [ET.out]; simpa using e3
        have hr : res = Op.bytesLess tga.toList tgb.toList := by rw [HRES.out, if_pos e1, if_pos e2, if_neg e3, LT.out]
        have HR := Lib.hid hr
        clear hr e1 e2 e3
        go_enter Try.func133, Try.ntmps133
        go_wp2_with (first | (refine wpList_box_any rfl 161 (.tmp 0) rfl X rfl ?_; intro W1 b1 k1 z1) | (refine wpList_box_any rfl 161 (.tmp 1) rfl Y rfl ?_; intro W2 b2 k2 z2; rw [z1] at b2; have bx := k2.heap b1 id; have c0 := (cell_blk bx 0).trans HX0.out; have d0 := (cell_blk b2 0).trans HY0.out; have c1 := (cell_blk bx 1).trans HX1.out; have d1 := (cell_blk b2 1).trans HY1.out; have c2 := (cell_blk bx 2).trans HX2.out; have d2 := (cell_blk b2 2).trans HY2.out; have c4 := (cell_blk bx 35).trans HX4.out; have d4 := (cell_blk b2 35).trans HY4.out; have c5 := (cell_blk bx 36).trans HX5.out; have d5 := (cell_blk b2 36).trans HY5.out; have HLX2 := Lib.hid (HLX.out _ _ bx); have HLY2 := Lib.hid (HLY.out _ _ b2); have HK := Lib.hid (k1.trans k2); clear bx b1 b2 k1 k2 z2) | (refine wpList_load_run rfl 106 (.tmp 35) rfl _ rfl _ HLX2.out ?_) | (refine wpList_load_run rfl 106 (.tmp 37) rfl _ rfl _ HLY2.out ?_) | (refine wpList_load_run rfl 106 (.tmp 40) rfl _ rfl _ HLX2.out ?_) | (refine wpList_load_run rfl 106 (.tmp 42) rfl _ rfl _ HLY2.out ?_))
        go_ret
        exact ⟨by rw [HR.out]; rfl, HK.out⟩
    · have q2 : (ah.toList == bh.toList) = false := by rw [EH.out]; simpa using e2
      have hr : res = Op.bytesLess ah.toList bh.toList := by rw [HRES.out, if_pos e1, if_neg e2, LH.out]
      have HR := Lib.hid hr
      clear hr e1 e2
      go_enter Try.func133, Try.ntmps133
      go_wp2_with (first | (refine wpList_box_any rfl 161 (.tmp 0) rfl X rfl ?_; intro W1 b1 k1 z1) | (refine wpList_box_any rfl 161 (.tmp 1) rfl Y rfl ?_; intro W2 b2 k2 z2; rw [z1] at b2; have bx := k2.heap b1 id; have c0 := (cell_blk bx 0).trans HX0.out; have d0 := (cell_blk b2 0).trans HY0.out; have c1 := (cell_blk bx 1).trans HX1.out; have d1 := (cell_blk b2 1).trans HY1.out; have c2 := (cell_blk bx 2).trans HX2.out; have d2 := (cell_blk b2 2).trans HY2.out; have c4 := (cell_blk bx 35).trans HX4.out; have d4 := (cell_blk b2 35).trans HY4.out; have c5 := (cell_blk bx 36).trans HX5.out; have d5 := (cell_blk b2 36).trans HY5.out; have HLX2 := Lib.hid (HLX.out _ _ bx); have HLY2 := Lib.hid (HLY.out _ _ b2); have HK := Lib.hid (k1.trans k2); clear bx b1 b2 k1 k2 z2) | (refine wpList_load_run rfl 106 (.tmp 35) rfl _ rfl _ HLX2.out ?_) | (refine wpList_load_run rfl 106 (.tmp 37) rfl _ rfl _ HLY2.out ?_) | (refine wpList_load_run rfl 106 (.tmp 40) rfl _ rfl _ HLX2.out ?_) | (refine wpList_load_run rfl 106 (.tmp 42) rfl _ rfl _ HLY2.out ?_))
      go_ret
      exact ⟨by rw [HR.out]; rfl, HK.out⟩
  · have q1 : (a.time == b.time) = false := by simpa using e1
    have hr : res = decide (a.time < b.time) := by rw [HRES.out, if_neg e1]
    have HR := Lib.hid hr
    clear hr e1
    go_enter Try.func133, Try.ntmps133
    go_wp2_with (first | (refine wpList_box_any rfl 161 (.tmp 0) rfl X rfl ?_; intro W1 b1 k1 z1) | (refine wpList_box_any rfl 161 (.tmp 1) rfl Y rfl ?_; intro W2 b2 k2 z2; rw [z1] at b2; have bx := k2.heap b1 id; have c0 := (cell_blk bx 0).trans HX0.out; have d0 := (cell_blk b2 0).trans HY0.out; have c1 := (cell_blk bx 1).trans HX1.out; have d1 := (cell_blk b2 1).trans HY1.out; have c2 := (cell_blk bx 2).trans HX2.out; have d2 := (cell_blk b2 2).trans HY2.out; have c4 := (cell_blk bx 35).trans HX4.out; have d4 := (cell_blk b2 35).trans HY4.out; have c5 := (cell_blk bx 36).trans HX5.out; have d5 := (cell_blk b2 36).trans HY5.out; have HLX2 := Lib.hid (HLX.out _ _ bx); have HLY2 := Lib.hid (HLY.out _ _ b2); have HK := Lib.hid (k1.trans k2); clear bx b1 b2 k1 k2 z2) | (refine wpList_load_run rfl 106 (.tmp 35) rfl _ rfl _ HLX2.out ?_) | (refine wpList_load_run rfl 106 (.tmp 37) rfl _ rfl _ HLY2.out ?_) | (refine wpList_load_run rfl 106 (.tmp 40) rfl _ rfl _ HLX2.out ?_) | (refine wpList_load_run rfl 106 (.tmp 42) rfl _ rfl _ HLY2.out ?_))
    go_ret
    exact ⟨by rw [HR.out]; rfl, HK.out⟩
end Go.Proofs.Ytgnigkghkldcfaa
