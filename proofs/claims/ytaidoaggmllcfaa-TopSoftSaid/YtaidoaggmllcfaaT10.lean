/- Contracts of layer 6: how much a table lacks; the errors of tables in grains. -/
import Derived.Test.YtaidoaggmllcfaaT9
namespace Go.Proofs.Ytaidoaggmllcfaa
open Go.RowKit
attribute [local go_sem] GW.cell

def av (v : Int) : Int := if 0 ≤ v then v else -v
def absTo (l : List Int) : Nat → Int
  | 0 => 0
  | k + 1 => absTo l k + av (gi l k)
def absL (l : List Int) : Int := absTo l l.length
theorem absTo_succ (l : List Int) (k : Nat) : absTo l (k + 1) = absTo l k + av (gi l k) := rfl
theorem absTo_bd {l : List Int} {M : Int} (h : ∀ j, j < l.length → -M ≤ gi l j ∧ gi l j ≤ M) : ∀ k, k ≤ l.length → 0 ≤ absTo l k ∧ absTo l k ≤ k * M
  | 0, _ => by simp [absTo]
  | k + 1, hk => by
    have h1 := absTo_bd h k (by omega)
    have h2 := h k (by omega)
    have e : ((k + 1 : Nat) : Int) * M = k * M + M := by rw [show ((k + 1 : Nat) : Int) = (k : Int) + 1 by omega, Int.add_mul, Int.one_mul]
    rw [absTo_succ]
    unfold av
    split <;> omega
theorem gi_app1 {l m : List Int} {j : Nat} (h : j < l.length) : gi (l ++ m) j = gi l j := by simp [gi, List.getElem?_append_left h]
theorem gi_app2 {l m : List Int} {j : Nat} (h : ¬ j < l.length) : gi (l ++ m) j = gi m (j - l.length) := by simp [gi, List.getElem?_append_right (by omega : l.length ≤ j)]
/-- what rows and columns lack, or have too much -/
def lacksL (x y : List Int) (t : Tbl) (n m : Nat) : List Int := lackR x t n ++ lackC y t m
theorem lacksL_len (x y : List Int) (t : Tbl) (n m : Nat) : (lacksL x y t n m).length = n + m := by unfold lacksL; rw [List.length_append, lackR_len, lackC_len]
theorem lacksL_bd {n m : Nat} {x y : List Int} {t : Tbl} (h : TOk n m 0 1000000 t) (hx : ∀ j, j < n → 0 ≤ gi x j ∧ gi x j ≤ 30) (hy : ∀ j, j < m → 0 ≤ gi y j ∧ gi y j ≤ 30) : ∀ j, j < (lacksL x y t n m).length → -10000000 ≤ gi (lacksL x y t n m) j ∧ gi (lacksL x y t n m) j ≤ 10000000 := fun j hj => by
  rw [lacksL_len] at hj
  have hn5 := h.n5
  have hm5 := h.m5
  unfold lacksL
  by_cases hjn : j < n
  · rw [gi_app1 (by rw [lackR_len]; exact hjn), gi_lackR hjn]
    have h1 := hx j hjn
    have h2 := sm_bd h hjn
    have h3 : (m : Int) * 1000000 ≤ 5 * 1000000 := Int.mul_le_mul_of_nonneg_right (by omega) (by omega)
    omega
  · rw [gi_app2 (by rw [lackR_len]; exact hjn), lackR_len, gi_lackC (by omega)]
    have h1 := hy (j - n) (by omega)
    have h2 := cs_bd h (j := j - n) (by omega)
    have h3 : (n : Int) * 1000000 ≤ 5 * 1000000 := Int.mul_le_mul_of_nonneg_right (by omega) (by omega)
    omega
theorem table_new2 (w : World) (a1 a2 : Option Addr) (c1 c2 : Nat) (x y : List Int) (T : TypeId) (h1 : Ints w a1 x) (h2 : Ints w a2 y) : Table (w.alloc (.cells #[.slice a1 x.length c1, .slice a2 y.length c2] T)) (some ⟨w.heap.size, 0, none⟩) [x, y] := by
  have hb := BlkC.new w #[.slice a1 x.length c1, .slice a2 y.length c2] T
  have hE := ext_alloc w (.cells #[.slice a1 x.length c1, .slice a2 y.length c2] T)
  intro j hj
  match j, hj with
  | 0, _ => exact ⟨_, 0, a1, c1, rfl, hb.lt, hb.cellv 0 rfl, h1.ext hE⟩
  | 1, _ => exact ⟨_, 0, a2, c2, rfl, hb.lt, hb.cellv 1 rfl, h2.ext hE⟩
set_option maxRecDepth 20000 in
set_option maxHeartbeats 4000000 in
theorem f92_c (ax bx a : Option Addr) (n m c ca cb : Nat) (x y : List Int) (t : Tbl) (w : World) (hx : Ints w ax x) (hxn : x.length = n) (hxb : ∀ j, j < n → 0 ≤ gi x j ∧ gi x j ≤ 30) (hy : Ints w bx y) (hyn : y.length = m) (hyb : ∀ j, j < m → 0 ≤ gi y j ∧ gi y j ≤ 30)
    (hl : Table w a t) (H0 : TOk n m 0 1000000 t) :
    Calls Try.prog 92 #[.slice ax n ca, .slice bx m cb, .slice a n c] w fun e w' => e = .returned (.int .i64 (absL (lacksL x y t n m))) ∧ Ext w w' := by
  have hn5 := H0.n5
  have hm5 := H0.m5
  have hn1 := H0.n1
  have C := Lib.hid (f112_c ax bx a n m c ca cb x y t w hx hxn hxb hy hyn hyb hl H0)
  have Hb := Lib.hid (lacksL_bd H0 hxb hyb)
  have Hab := Lib.hid (absTo_bd (lacksL_bd H0 hxb hyb))
  have hLl := lacksL_len x y t n m
  have hLf : ([lackR x t n, lackC y t m] : Tbl).flatten = lacksL x y t n m := by simp [lacksL]
  have C118 := fun a W h => f118_c a 2 2 [lackR x t n, lackC y t m] W h rfl (by omega) (by rw [hLf]; omega) (by rw [hLf]; omega)
  rw [hLf] at C118
  unfold absL
  have C118 := Lib.hid C118
  have e1 := lackR_len x t n
  have e2 := lackC_len y t m
  clear hx hxn hxb hy hyn hyb hl H0 hLf
  generalize lacksL x y t n m = L at *
  generalize lackR x t n = LR at *
  generalize lackC y t m = LC at *
  have hL1 : L.length ≤ n + m := by omega
  clear hLl
  go_enter Try.func92, Try.ntmps92
  go_wp2_with fail
  refine C.out.mono ?_
  rintro e w1 ⟨u, v, B, rfl, hu, rfl, hv, hBu, hBlt, hE1⟩
  obtain ⟨au, cu, rfl, hIu⟩ := ints_of_row hu
  obtain ⟨av', cv, e, hIv⟩ := ints_of_row hv
  injection e with e3 e4 e5
  subst e3
  clear e4 hu hv hBu C
  have HT0 := table_new2 w1 au (some ⟨B, 0, none⟩) cu LC.length LR LC 31 hIu hIv
  rw [e1, e2] at HT0
  have HT := Lib.hid HT0
  clear HT0
  have hE2 := hE1.trans' (ext_alloc w1 (.cells #[.slice au n cu, .slice (some ⟨B, 0, none⟩) m m] 31))
  clear hIu hIv e5
  go_wp2_with fail
  refine (C118.out _ _ HT.out).mono ?_
  rintro e w3 ⟨a3, c3, rfl, hI3, hE3⟩
  have hE3 := hE2.trans' hE3
  clear C118
  go_wp2_with fail
  go_loop [9, 11, 24] (fun s _ i => ∃ k : Nat, k ≤ L.length ∧ i = .int .i64 k ∧ s = .int .i64 (absTo L k)) (fun _ _ i => L.length - (intOf i).toNat)
  case atStart => exact ⟨0, Nat.zero_le _, rfl, rfl⟩
  case round =>
    obtain ⟨k, hk, rfl, rfl⟩ := hrel
    by_cases hlt : k < L.length
    · obtain ⟨b4, o4, rfl, hb4, hc4⟩ := hI3 k hlt
      rw [← gi_at] at hc4
      have h1 := Hab.out k (by omega)
      have h2 := Hb.out k hlt
      have h3 : absTo L k ≤ 100000000 := by have : (k : Int) * 10000000 ≤ 10 * 10000000 := Int.mul_le_mul_of_nonneg_right (by omega) (by omega); omega
      have h4 := h1.1
      have Hs := Lib.hid (absTo_succ L k)
      have hv : Hid ((0 ≤ gi L k → av (gi L k) = gi L k) ∧ (¬ 0 ≤ gi L k → av (gi L k) = -(gi L k))) := Lib.hid (by unfold av; constructor <;> intro h <;> simp [h])
      clear h1
      generalize gi L k = z at *
      generalize absTo L k = s at *
      by_cases hz : 0 ≤ z
      · have hz2 := hv.out.1 hz
        rw [hz2] at Hs
        clear hv hz2
        go_wp2_with fail
        all_goals
          go_round
          case rel => exact ⟨k + 1, by omega, by go_num, by rw [Hs.out]; first | rfl | exact congrArg (Value.int .i64) (by omega) | exact congrArg (Value.int .i64) (by split <;> omega)⟩
          case measure => simp [intOf]; omega
      · have hz2 := hv.out.2 hz
        rw [hz2] at Hs
        clear hv hz2
        go_wp2_with fail
        all_goals
          go_round
          case rel => exact ⟨k + 1, by omega, by go_num, by rw [Hs.out]; first | rfl | exact congrArg (Value.int .i64) (by omega) | exact congrArg (Value.int .i64) (by split <;> omega)⟩
          case measure => simp [intOf]; omega
    · obtain rfl : k = L.length := by omega
      go_wp2_with fail
      go_ret
      exact ⟨rfl, hE3⟩
/-- a list of the call's own -/
def RetO (L : List Int) (w : World) (e : Ending) (w' : World) : Prop := ∃ v, e = .returned v ∧ w'.ownsRow w.heap.size 3 1 v L.length (L.map (.int .i64)) ∧ Ext w w'
set_option maxRecDepth 20000 in
set_option maxHeartbeats 4000000 in
theorem f120_c (a ax : Option Addr) (n m c ca : Nat) (x : List Int) (t : Tbl) (w : World) (hl : Table w a t) (H0 : TOk n m 0 1000000 t) (hx : Ints w ax x) (hxn : x.length = n) (hxb : ∀ j, j < n → 0 ≤ gi x j ∧ gi x j ≤ 30) :
    Calls Try.prog 120 #[.slice a n c, .slice ax n ca] w (RetO (lackR x t n) w) := by
  have hn5 := H0.n5
  have hm5 := H0.m5
  have HT := Lib.hid H0
  have Hxb := Lib.hid hxb
  have Hxn := Lib.hid hxn
  have hlen := H0.len
  subst hlen
  clear H0 hxb hxn
  go_enter Try.func120, Try.ntmps120
  go_wp2_with fail
  go_loopw [5, 6] (fun v i wr => ∃ k : Nat, k ≤ t.length ∧ i = .int .i64 k ∧ Ext w wr ∧ Hid (wr.ownsRow w.heap.size 3 1 v k ((lackR x t k).map (.int .i64)))) (fun _ i _ => t.length - (intOf i).toNat)
  case atStart => exact ⟨0, Nat.zero_le _, rfl, Below.refl _ _, World.ownsRow_nil _ _ _ _⟩
  case round =>
    obtain ⟨k, hk, rfl, hE, H⟩ := hrel
    by_cases hlt : k < t.length
    · obtain ⟨b1, o1, a1, c1, rfl, hb1, hc1, hI1⟩ := hl.ext hE k hlt
      obtain ⟨b4, o4, rfl, hb4, hc4⟩ := hx.ext hE k (by have := Hxn.out; omega)
      rw [← gi_at] at hc4
      have hmk := HT.out.cols k hlt
      have hsb := sm_bd HT.out hlt
      have hs2 : sm (row t k) ≤ 5000000 := by have : (m : Int) * 1000000 ≤ 5 * 1000000 := Int.mul_le_mul_of_nonneg_right (by omega) (by omega); omega
      have hs1 := hsb.1
      have hxk := Hxb.out k hlt
      have hbd := fun j (hj : j < m) => HT.out.bd k j hlt hj
      unfold tg at hbd
      rw [row_at hlt] at hmk hbd hs2 hs1
      have Cs := Lib.hid (fun W (h : Ints W a1 t[k]) => f96_c a1 t[k].length c1 t[k] W h rfl (by omega) (fun j hj => by have := hbd j (by omega); omega))
      have Hs : Hid ((lackR x t (k + 1)).map (Value.int .i64) = (lackR x t k).map (.int .i64) ++ [.int .i64 (gi x k * 1000 - sm t[k])]) := Lib.hid (by unfold lackR; rw [List.range_succ, List.map_append, List.map_append]; simp only [List.map_cons, List.map_nil]; rw [row_at hlt])
      clear hbd hsb hmk
      have hsz := hE.size
      generalize sm t[k] = s at *
      generalize gi x k = y at *
      have HI1 := Lib.hid hI1
      clear hI1
      go_wp2_with fail
      refine wp_region_ext_tail1 12 (by kernel_rfl) (by kernel_rfl) (by rfl) (by rfl) (fun _ _ _ h => h) ?_
      simp only [List.take_succ_cons, List.take_zero, List.drop_succ_cons, List.drop_zero]
      go_simp
      repeat (go_big_quiet_step ((go_at_call 96; exact quiet_same (Cs.out _ (HI1.out.ext (GW.ext _))))))
      refine wpQuiet_nil ?_
      intro w2 hX2
      have H2 := Lib.hid (row_ext H.out hX2)
      have hE2 := hE.trans' hX2
      have hsz2 := hE2.size
      go_wp2_with (at_builtin; refine wpList_push rfl (.tmp 13) (.tmp 25) 31 rfl infoI Try.underlying31 rfl rfl rfl (by simp [Value.oneCell']) H2.out (by omega) (by omega) (by omega) ?_; intro v' w' hown hP)
      go_roundw
      case rel => exact ⟨k + 1, by omega, by go_num, hP.ext hE2 H2.out (Nat.le_refl _), by rw [Hs.out]; exact hown⟩
      case measure => simp [intOf]; omega
    · obtain rfl : k = t.length := by omega
      obtain ⟨a8, c8, rfl⟩ := slice_form H.out
      have hf := Lib.hid (show RetO (lackR x t t.length) w (.returned (.slice a8 t.length c8)) wr from ⟨_, rfl, by rw [lackR_len]; exact H.out, hE⟩)
      go_wp2_with fail
      go_ret
      exact hf.out
theorem lackR_turn {n m : Nat} {lo hi : Int} {t : Tbl} (h : TOk n m lo hi t) (y : List Int) : lackR y (turnT n m t) m = lackC y t m := by
  unfold lackR lackC
  apply List.map_congr_left
  intro j hj
  rw [List.mem_range] at hj
  have e : sm (row (turnT n m t) j) = cs t j := by
    unfold sm
    rw [show (row (turnT n m t) j).length = n from mk_cols _ hj, cs_n h]
    exact csTo_sm hj n (Nat.le_refl _)
  rw [e]
set_option maxRecDepth 20000 in
set_option maxHeartbeats 4000000 in
theorem f94_c (ax bx a : Option Addr) (n m c ca cb : Nat) (x y : List Int) (t : Tbl) (w : World) (hx : Ints w ax x) (hxn : x.length = n) (hxb : ∀ j, j < n → 0 ≤ gi x j ∧ gi x j ≤ 30) (hy : Ints w bx y) (hyn : y.length = m) (hyb : ∀ j, j < m → 0 ≤ gi y j ∧ gi y j ≤ 30)
    (hl : Table w a t) (H0 : TOk n m 0 1000000 t) :
    Calls Try.prog 94 #[.slice ax n ca, .slice bx m cb, .slice a n c] w fun e w' => e = .returned (.int .i64 (absL (lacksL x y t n m))) ∧ Ext w w' := by
  have hn5 := H0.n5
  have hm5 := H0.m5
  have hn1 := H0.n1
  obtain ⟨i0, hi0⟩ := infoI
  have Hi := Lib.hid hi0
  have C1 := Lib.hid (f120_c a ax n m c ca x t w hl H0 hx hxn hxb)
  have C2 := Lib.hid (fun W (h : Ext w W) => f71_c a n c m t W (hl.ext h) H0.len H0.n1 H0.n5 H0.m5 H0.cols)
  have C3 := fun a2 c2 W (h2 : Table W a2 (turnT n m t)) (h : Ext w W) => f120_c a2 bx m n c2 cb y (turnT n m t) W h2 (turn_ok H0) (hy.ext h) hyn hyb
  rw [lackR_turn H0] at C3
  have C3 := Lib.hid C3
  have Hb := Lib.hid (lacksL_bd H0 hxb hyb)
  have Hab := Lib.hid (absTo_bd (lacksL_bd H0 hxb hyb))
  have hLl := lacksL_len x y t n m
  have hLf : Hid ((lacksL x y t n m).map (Value.int .i64) = (lackR x t n).map (.int .i64) ++ (lackC y t m).map (.int .i64)) := Lib.hid (by unfold lacksL; rw [List.map_append])
  unfold absL
  have e1 := lackR_len x t n
  have e2 := lackC_len y t m
  have eT : (turnT n m t).length = m := mk_len _ _ _
  clear hx hxn hxb hy hyn hyb hl H0 hi0
  generalize turnT n m t = TT at *
  generalize lacksL x y t n m = L at *
  generalize lackR x t n = LR at *
  generalize lackC y t m = LC at *
  have hL1 : L.length ≤ n + m ∧ n + m ≤ L.length := by omega
  have f1 : LR.length ≤ n ∧ n ≤ LR.length := by omega
  have f2 : LC.length ≤ m ∧ m ≤ LC.length := by omega
  have EL := Lib.hid (show LR.length + LC.length = L.length by omega)
  have ET := Lib.hid eT
  clear hLl e1 e2 eT
  go_enter Try.func94, Try.ntmps94
  go_wp2_with fail
  refine C1.out.mono ?_
  rintro e w1 ⟨v1, rfl, hr1, hE1⟩
  obtain ⟨a1, c1, rfl⟩ := slice_form hr1
  have HR1 := Lib.hid hr1
  clear hr1
  go_wp2_with fail
  refine (C2.out _ hE1).mono ?_
  rintro e w2 ⟨v2, rfl, hT2, hX2⟩
  obtain ⟨a2, c2, rfl, hTt⟩ := hT2.table
  rw [ET.out]
  have hE2 := hE1.trans' hX2
  have HR1 := Lib.hid (row_ext HR1.out hX2)
  have HT2 := Lib.hid hTt
  clear hT2 hTt hX2
  go_wp2_with fail
  refine (C3.out _ _ _ HT2.out hE2).mono ?_
  rintro e w3 ⟨v3, rfl, hr3, hX3⟩
  obtain ⟨a3, c3, rfl, hI3⟩ := ints_of_row hr3
  have hE3 := hE2.trans' hX3
  have HR1 := Lib.hid (row_ext HR1.out hX3)
  have Hrd := Lib.hid (reads_ints hI3)
  have hsz3 := hE3.size
  clear hr3 hX3 hI3
  go_wp2_with (at_builtin; refine wpList_append_any _ rfl (.tmp 12) (.tmp 16) 31 rfl w.heap.size 3 i0 (.int .i64 0) 1 8 Try.underlying31 Hi.out.1 Hi.out.2.1 Hi.out.2.2.1 Hi.out.2.2.2 rfl (by omega) _ LR.length _ rfl HR1.out _ a3 LC.length c3 (LC.map (.int .i64)) rfl Hrd.out ints_one (by unfold maxLen; omega) (by omega) hsz3 ?_; intro v4 w4 hown hgrow hat; have hE4 := ext_grow hE3 HR1.out (Nat.le_refl _) hgrow; rw [← hLf.out] at hown; obtain ⟨a4, c4, rfl, hI4⟩ := ints_of_row hown; have HI4 := Lib.hid hI4; clear hown hgrow hat hI4)
  go_loopw [7, 9] (fun s i wr => ∃ k : Nat, k ≤ L.length ∧ i = .int .i64 k ∧ s = .int .i64 (absTo L k) ∧ Ext w4 wr) (fun _ i _ => L.length - (intOf i).toNat)
  case atStart => exact ⟨0, Nat.zero_le _, rfl, rfl, Below.refl _ _⟩
  case round =>
    obtain ⟨k, hk, rfl, rfl, hE5⟩ := hrel
    by_cases hlt : k < L.length
    · obtain ⟨b4, o4, rfl, hb4, hc4⟩ := HI4.out.ext hE5 k hlt
      rw [← gi_at] at hc4
      have h1 := Hab.out k (by omega)
      have h2 := Hb.out k hlt
      have h3 : absTo L k ≤ 100000000 := by have : (k : Int) * 10000000 ≤ 10 * 10000000 := Int.mul_le_mul_of_nonneg_right (by omega) (by omega); omega
      have h4 := h1.1
      have Hs := Lib.hid (absTo_succ L k)
      have hv : Hid ((0 ≤ gi L k → av (gi L k) = gi L k) ∧ (¬ 0 ≤ gi L k → av (gi L k) = -(gi L k))) := Lib.hid (by unfold av; constructor <;> intro h <;> simp [h])
      clear h1
      generalize gi L k = z at *
      generalize absTo L k = s at *
      by_cases hz : 0 ≤ z
      · have hz2 := hv.out.1 hz
        rw [hz2] at Hs
        clear hv hz2
        go_wp2_with fail
        refine wp_region_ext (by kernel_rfl) (by kernel_rfl) ?_
        repeat (go_big_quiet_step (fail))
        refine wpQuiet_nil ?_
        intro w6 hX6
        go_wp2_with fail
        all_goals
          go_roundw
          case rel => exact ⟨k + 1, by omega, by go_num, by rw [Hs.out]; first | rfl | exact congrArg (Value.int .i64) (by omega) | exact congrArg (Value.int .i64) (by split <;> omega), hE5.trans' hX6⟩
          case measure => simp [intOf]; omega
      · have hz2 := hv.out.2 hz
        rw [hz2] at Hs
        clear hv hz2
        go_wp2_with fail
        refine wp_region_ext (by kernel_rfl) (by kernel_rfl) ?_
        repeat (go_big_quiet_step (fail))
        refine wpQuiet_nil ?_
        intro w6 hX6
        go_wp2_with fail
        all_goals
          go_roundw
          case rel => exact ⟨k + 1, by omega, by go_num, by rw [Hs.out]; first | rfl | exact congrArg (Value.int .i64) (by omega) | exact congrArg (Value.int .i64) (by split <;> omega), hE5.trans' hX6⟩
          case measure => simp [intOf]; omega
    · obtain rfl : k = L.length := by omega
      have hEf := hE4.trans' hE5
      go_wp2_with fail
      go_ret
      exact ⟨rfl, hEf⟩

end Go.Proofs.Ytaidoaggmllcfaa
