/- Contracts of layer 6: a step of a fit. -/
import Derived.Test.YtaidoaggmllcfaaT4
namespace Go.Proofs.Ytaidoaggmllcfaa
open Go.RowKit
attribute [local go_sem] GW.cell

theorem as87_87 (v : Value) (w : World) : (Instr.typeAssert (.iface 87 v) 113 87 true).run Try.prog w = .ok (.tuple #[v, .bool true]) w := by kernel_rfl
theorem as89_87 (v : Value) (w : World) : (Instr.typeAssert (.iface 89 v) 113 87 true).run Try.prog w = .ok (.tuple #[.slice none 0 0, .bool false]) w := by kernel_rfl
theorem as89_89 (v : Value) (w : World) : (Instr.typeAssert (.iface 89 v) 113 89 true).run Try.prog w = .ok (.tuple #[v, .bool true]) w := by kernel_rfl
theorem me87 (v : Value) (w : World) : (method 248 87 v "drayage/soft.masses").run Try.prog w = .ok (142, v) w := by kernel_rfl
theorem me89 (v : Value) (w : World) : (method 248 89 v "drayage/soft.masses").run Try.prog w = .ok (143, v) w := by kernel_rfl
theorem cf142 (v : Value) (w : World) : (callFunc 142 #[v]).run Try.prog w = .ok (.enter 142 #[v]) w := by kernel_rfl
theorem cf143 (v : Value) (w : World) : (callFunc 143 #[v]).run Try.prog w = .ok (.enter 143 #[v]) w := by kernel_rfl
attribute [local go_sem] as87_87 as89_87 as89_89 me87 me89 cf142 cf143
def fitC (n m : Nat) (t : Tbl) (b : List Int) : Tbl := mk n m fun i j => shareV (tg t i j) (gi b j) (cs t j)
theorem f142_c (v : Value) (w : World) : Calls Try.prog 142 #[v] w fun e w' => e = .returned v ∧ w = w' := by
  go_enter Try.func142, Try.ntmps142
  go_wp2
  go_ret
  exact ⟨rfl, rfl⟩
theorem f143_c (v : Value) (w : World) : Calls Try.prog 143 #[v] w fun e w' => e = .returned v ∧ w = w' := by
  go_enter Try.func143, Try.ntmps143
  go_wp2
  go_ret
  exact ⟨rfl, rfl⟩
/-- the numbers of a table in one row, the first z of them -/
def flatL (m : Nat) (f : Nat → Nat → Int) (z : Nat) : List Int := (List.range z).map fun i => f (i / m) (i % m)
theorem flatL_len (m : Nat) (f : Nat → Nat → Int) (z : Nat) : (flatL m f z).length = z := by simp [flatL]
theorem flat_div {m k q : Nat} (hq : q < m) : (k * m + q) / m = k ∧ (k * m + q) % m = q := by
  constructor
  · rw [Nat.add_comm, Nat.add_mul_div_right _ _ (by omega), Nat.div_eq_of_lt hq, Nat.zero_add]
  · rw [Nat.add_comm, Nat.add_mul_mod_self_right, Nat.mod_eq_of_lt hq]
theorem flatL_succ {m : Nat} (f : Nat → Nat → Int) {k q : Nat} (hq : q < m) : flatL m f (k * m + q + 1) = flatL m f (k * m + q) ++ [f k q] := by
  unfold flatL
  rw [List.range_succ, List.map_append]
  simp only [List.map_cons, List.map_nil]
  rw [(flat_div hq).1, (flat_div hq).2]
def rvF (F m k : Nat) : List Value := (List.range k).map fun i => Value.slice (some ⟨F, i * m, none⟩) m m
theorem rvF_succ (F m k : Nat) : rvF F m (k + 1) = rvF F m k ++ [.slice (some ⟨F, k * m, none⟩) m m] := by simp [rvF, List.range_succ]
theorem rvF_len (F m k : Nat) : (rvF F m k).length = k := by simp [rvF]
theorem ownT_flat {W : World} {B F n m cap : Nat} {v : Value} (f : Nat → Nat → Int) (hB : B ≤ F) (hflat : W.ownsRow F 3 1 (.slice (some ⟨F, 0, none⟩) (n * m) cap) (n * m) ((flatL m f (n * m)).map (.int .i64)))
    (hout : W.ownsRow (F + 1) 31 1 v n (rvF F m n)) (hlt : F < W.heap.size) : OwnT 31 W B W.heap.size v (mk n m f) := by
  refine ⟨fun i => some ⟨F, i * m, none⟩, fun _ => m, fun _ => F, fun i => i * m, Nat.le_refl _, ?_, ?_, ?_, ?_⟩
  · have e : rv (mk n m f) (fun i => some ⟨F, i * m, none⟩) (fun _ => m) = rvF F m n := by
      unfold rv rvF
      rw [mk_len]
      apply List.map_congr_left
      intro i hi
      rw [List.mem_range] at hi
      rw [mk_cols f hi]
    rw [e, mk_len]
    exact row_base hout (by omega)
  · intro g hg
    rcases hout.2 with ⟨rfl, _⟩ | ⟨g2, cap2, cur, rfl, _, hg2, _⟩
    · simp [Value.ownBlock] at hg
    · have := (Array.getElem?_eq_some_iff.1 hg2).1
      simp [Value.ownBlock] at hg; omega
  · intro i hi h0
    rw [mk_len] at hi
    refine ⟨rfl, hB, hlt, row_far hout (by omega), fun j hj => ?_⟩
    rw [mk_cols f hi] at hj
    have hz : i * m + j < n * m := by
      have : (i + 1) * m ≤ n * m := Nat.mul_le_mul_right m hi
      rw [Nat.add_mul, Nat.one_mul] at this; omega
    have hc := row_cell hflat (j := i * m + j) (u := .int .i64 (f i j)) (by
      rw [List.getElem?_map, List.getElem?_eq_getElem (by rw [flatL_len]; exact hz), Option.map_some]
      congr 2
      simp only [flatL, List.getElem_map, List.getElem_range]
      rw [(flat_div hj).1, (flat_div hj).2])
    refine ⟨hc.trans ?_, hflat.frozenAt _⟩
    show _ = some (Value.int .i64 (tg (mk n m f) i j))
    rw [tg_mk f hi hj]
  · intro i k hi hk hne _ _
    rw [mk_len] at hi hk
    rw [mk_cols f hi, mk_cols f hk]
    rcases Nat.lt_or_ge i k with h | h
    · have : (i + 1) * m ≤ k * m := Nat.mul_le_mul_right m h
      rw [Nat.add_mul, Nat.one_mul] at this; exact .inr (.inl this)
    · have : (k + 1) * m ≤ i * m := Nat.mul_le_mul_right m (by omega)
      rw [Nat.add_mul, Nat.one_mul] at this; exact .inr (.inr this)
theorem cs_n {n m : Nat} {lo hi : Int} {t : Tbl} {j : Nat} (h : TOk n m lo hi t) : cs t j = csTo t j n := by unfold cs; rw [h.len]
theorem cs_bd {n m : Nat} {hi : Int} {t : Tbl} (h : TOk n m 0 hi t) {j : Nat} (hj : j < m) : 0 ≤ cs t j ∧ cs t j ≤ n * hi := by
  have := csTo_bd h (Int.le_refl 0) hj n (Nat.le_refl _)
  unfold cs; rw [h.len]; exact this


set_option maxRecDepth 20000 in
set_option maxHeartbeats 8000000 in
theorem f68_r (a b : Option Addr) (n c c2 m : Nat) (t : Tbl) (l : List Int) (w : World) (hl : Table w a t) (H0 : TOk n m 0 1000000 t) (hb : Ints w b l) (hln : l.length = n) (hlb : ∀ j, j < l.length → 0 ≤ gi l j ∧ gi l j ≤ 30) :
    Calls Try.prog 68 #[.slice a n c, .iface 87 (.slice b n c2)] w (RetT 31 (fitR n m t l) w) := by
  have hn5 := H0.n5
  have hm5 := H0.m5
  have hn1 := H0.n1
  have hm1 := H0.m1
  have HT := Lib.hid H0
  have Hlb := Lib.hid hlb
  obtain ⟨i0, hi0⟩ := infoI
  have Hi := Lib.hid hi0
  have C95 := Lib.hid (f95_c a n c m t w hl ⟨H0.n1, H0.n5, H0.m1, H0.m5, H0.len, H0.cols, fun i j hi hj => by have := H0.bd i j hi hj; omega⟩)
  have hlen := H0.len
  obtain ⟨b0, o0, a0, c0, rfl, hb0, hc0, hI0⟩ := hl 0 (by omega)
  have hm := HT.out.cols 0 (by omega)
  rw [row_at (by omega)] at hm
  rw [hm] at hc0
  simp only [Nat.add_zero] at hc0
  unfold fitR
  have hnm : n * m ≤ 25 := Nat.mul_le_mul hn5 hm5
  obtain ⟨N, hN⟩ : ∃ N, n * m = N := ⟨_, rfl⟩
  have hNi : (n : Int) * (m : Int) = (N : Int) := by rw [← hN]; simp
  have HN := Lib.hid hN
  rw [hN] at hnm
  clear H0 hlb hI0 hm hlen hi0 hN
  go_enter Try.func68, Try.ntmps68
  go_wp2_with fail
  refine C95.out.mono ?_
  rintro e w1 ⟨u, v, B, rfl, hu, rfl, hv, hBu, hBlt, hE1⟩
  rw [rowSums_len] at hu
  rw [colSums_len] at hv
  obtain ⟨au, cu, e, hIu⟩ := ints_of_row hu
  rw [rowSums_len] at e
  subst e
  obtain ⟨av, cv, e, hIv⟩ := ints_of_row hv
  injection e with e1 e2 e3
  subst e1
  clear e2 e3 hu hv hBu
  have hc1 := (hE1.cell' hb0).trans hc0
  clear hc0 C95
  rw [colSums_len]
  go_wp2_with (at_make; refine wpList_make_own _ rfl (.const (.int .i64 0)) (.tmp 25) 31 rfl w1.heap.size 3 i0 (.int .i64 0) 1 Try.underlying31 Hi.out.1 Hi.out.2.1 Hi.out.2.2.1 .i64 .i64 N N rfl rfl rfl (by rw [Hi.out.2.2.2]; omega) (by unfold maxLen; omega) (Nat.le_refl _) ?_; intro w2 hrow hgrow; have hE2 := (Below.refl _ w1).grown hgrow (Nat.le_refl _) (by simp); have Hrow := Lib.hid hrow; clear hrow hgrow)
  have hz2 : w1.heap.size < w2.heap.size := row_lt Hrow.out
  have hE02 := hE1.trans' hE2
  obtain ⟨F, hF⟩ : ∃ F, w1.heap.size = F := ⟨_, rfl⟩
  have hwF : w.heap.size ≤ F := by rw [← hF]; exact hE1.size
  rw [hF] at Hrow hz2 ⊢
  have HF := Lib.hid hF
  clear hF
  go_loopw [7, 8, 9, 10, 11, 12, 13, 29] (fun u v _ _ _ _ _ i wr => ∃ k : Nat, k ≤ n ∧ i = .int .i64 k ∧ Ext w1 wr ∧ u = .slice (some ⟨F, 0, none⟩) (k * m) N ∧ Hid (wr.ownsRow F 3 1 (.slice (some ⟨F, 0, none⟩) (k * m) N) (k * m) ((flatL m (fun i j => shareV (tg t i j) (gi l i) (sm (row t i))) (k * m)).map (.int .i64))) ∧ Hid (wr.ownsRow (F + 1) 31 1 v k (rvF F m k))) (fun _ _ _ _ _ _ _ i _ => n - (intOf i).toNat)
  case atStart => exact ⟨0, Nat.zero_le _, rfl, hE2, by rw [Nat.zero_mul], by rw [Nat.zero_mul]; exact Hrow, World.ownsRow_nil _ _ _ _⟩
  case round =>
    obtain ⟨k, hk, rfl, hE, rfl, HFl, HO⟩ := hrel
    have hzr : F < wr.heap.size := row_lt HFl.out
    by_cases hlt : k < n
    · have hltt : k < t.length := by rw [HT.out.len]; exact hlt
      obtain ⟨b1, o1, a1, c1, e1, hb1, hcw, hIw⟩ := hl k hltt
      simp only [Option.some.injEq, Addr.mk.injEq, and_true] at e1
      obtain ⟨rfl, rfl⟩ := e1
      have hEw := hE1.trans' hE
      have hc3 := (hEw.cell' hb1).trans hcw
      have hmk := HT.out.cols k hlt
      rw [row_at hltt] at hmk
      rw [hmk] at hc3
      have Hm := Lib.hid hmk
      have hle : k * m + m ≤ N := by rw [← HN.out, show k * m + m = (k + 1) * m by rw [Nat.add_mul, Nat.one_mul]]; exact Nat.mul_le_mul_right m hlt
      have hbz : ∀ q, q < m → Hid ((flatL m (fun i j => shareV (tg t i j) (gi l i) (sm (row t i))) (k * m + q + 1)).map (Value.int .i64) = (flatL m (fun i j => shareV (tg t i j) (gi l i) (sm (row t i))) (k * m + q)).map (.int .i64) ++ [.int .i64 ((fun i j => shareV (tg t i j) (gi l i) (sm (row t i))) k q)]) := fun q hq => Lib.hid (by rw [flatL_succ _ hq, List.map_append]; rfl)
      have hkm : Hid ((k + 1) * m = k * m + m) := Lib.hid (by rw [Nat.add_mul, Nat.one_mul])
      have Hrv := Lib.hid (rvF_succ F m k)
      obtain ⟨z, hz⟩ : ∃ z, k * m = z := ⟨_, rfl⟩
      rw [hz] at HFl hle hbz hkm Hrv ⊢
      clear hmk hcw hc1 hz
      obtain ⟨wo, rfl⟩ : ∃ wo : World, wo = wr := ⟨_, rfl⟩
      go_wp2_with fail
      go_loopw [7, 12, 13, 38] (fun u _ _ j wr => ∃ q : Nat, q ≤ m ∧ j = .int .i64 q ∧ Ext w1 wr ∧ u = .slice (some ⟨F, 0, none⟩) (z + q) N ∧ Hid (wr.ownsRow F 3 1 (.slice (some ⟨F, 0, none⟩) (z + q) N) (z + q) ((flatL m (fun i j => shareV (tg t i j) (gi l i) (sm (row t i))) (z + q)).map (.int .i64))) ∧ Hid (wr.ownsRow (F + 1) 31 1 u8 k (rvF F m k))) (fun _ _ _ j _ => m - (intOf j).toNat)
      case atStart => exact ⟨0, Nat.zero_le _, rfl, hE, rfl, HFl, HO⟩
      case round =>
        obtain ⟨q, hq, rfl, hE3, rfl, HFl3, HO3⟩ := hrel
        have hzr3 : F < wr.heap.size := row_lt HFl3.out
        have hEw3 := hE1.trans' hE3
        by_cases hlq : q < m
        · obtain ⟨b2, o2, rfl, hb2, hc2⟩ := hIw.ext hEw3 q (by have := Hm.out; omega)
          rw [← gi_at, ← row_at hltt] at hc2
          obtain ⟨b4, o4, rfl, hb4, hc4⟩ := hb.ext hEw3 k (by omega)
          rw [← gi_at] at hc4
          obtain ⟨b5, o5, rfl, hb5, hc5⟩ := hIu.ext hE3 k (by rw [rowSums_len]; omega)
          skip
          rw [← gi_at, gi_rowSums hlt] at hc5
          have hbd := HT.out.bd k q hlt hlq
          have hlk := Hlb.out k (by omega)
          have hpr := mul_bd hbd hlk
          have hsb := sm_bd HT.out hlt
          have hs2 : sm (row t k) ≤ 5000000 := by have : (m : Int) * 1000000 ≤ 5 * 1000000 := Int.mul_le_mul_of_nonneg_right (by omega) (by omega); omega
          have hs1 := hsb.1
          have Hs := hbz q hlq
          have hx : tg t k q = gi (row t k) q := rfl
          have C := Lib.hid (fun W => f106_c (gi (row t k) q) (gi l k) (sm (row t k)) W ⟨by rw [← hx]; exact hpr.1, by rw [← hx]; omega⟩ ⟨hs1, by omega⟩)
          rw [hx] at Hs
          clear hpr hsb hbd hx
          generalize gi (row t k) q = x at *
          generalize gi l k = y at *
          generalize sm (row t k) = s at *
          generalize shareV x y s = r at *
          go_wp2_with fail
          refine wp_region_ext_tail1 12 (by kernel_rfl) (by kernel_rfl) (by rfl) (by rfl) (fun _ _ _ h => h) ?_
          simp only [List.take_succ_cons, List.take_zero, List.drop_succ_cons, List.drop_zero]
          go_simp
          repeat (go_big_quiet_step ((first | (go_at_call 142; exact quiet_same (f142_c _ _)) | (go_at_call 106; exact quiet_same (C.out _)))))
          refine wpQuiet_nil ?_
          intro w3 hX3
          have HFl4 := Lib.hid (row_ext HFl3.out hX3)
          have HO4 := Lib.hid (row_ext HO3.out hX3)
          have hE4 := hE3.trans' hX3
          have hfar := row_far HO4.out (B := F) (by omega)
          go_wp2_with (at_builtin; refine wpList_push_fits rfl (.tmp 47) (.tmp 59) 31 rfl infoI Try.underlying31 rfl rfl (by simp [Value.oneCell']) HFl4.out (by omega) ?_; intro w5 hown hgrow; have HFl5 := Lib.hid hown; have hE5 := (hE4.alloc (by have := hE4.size; have := HF.out; omega) (.cells #[.int .i64 r] 3)).grown hgrow (by have := hE4.size; simp; omega) (by have := HF.out; simp; omega); have HO5 := Lib.hid (HO4.out.alloc (.cells #[.int .i64 r] 3) |>.kept hgrow (.inr hfar.symm)); clear hown hgrow)
          go_roundw
          case rel => exact ⟨q + 1, by omega, by go_num, hE5, rfl, by rw [← Nat.add_assoc, Hs.out]; exact HFl5, HO5⟩
          case measure => simp [intOf]; omega
        · obtain rfl : q = m := by omega
          have hsw := hE3.size
          have hge : ¬ q < q := by omega
          go_wp2_with (at_builtin; refine wpList_push rfl (.tmp 79) (.tmp 87) 22 rfl infoS Try.underlying22 rfl rfl rfl (by simp [Value.oneCell']) HO3.out (by omega) (by omega) (by omega) ?_; intro v' w' hown hP)
          have hfar := row_far HO3.out (B := F) (by omega)
          have HFl6 := Lib.hid (hP.row HFl3.out (fun g hg => by simp [Value.ownBlock] at hg; subst hg; exact hfar))
          refine ⟨⟨k + 1, by omega, by go_num, hP.ext hE3 HO3.out (by have := HF.out; omega), by rw [hkm.out], by rw [hkm.out]; exact HFl6, by rw [Hrv.out]; exact hown⟩, by simp [intOf]; omega⟩
    · obtain rfl : k = n := by omega
      obtain ⟨a8, c8, e8⟩ := slice_form HO.out
      subst e8
      rw [HN.out] at HFl
      have hEr := hE1.trans' hE
      have Hf := Lib.hid (show RetT 31 (mk k m (fun i j => shareV (tg t i j) (gi l i) (sm (row t i)))) w (.returned (.slice a8 k c8)) wr from ⟨_, rfl, ownT_flat (fun i j => shareV (tg t i j) (gi l i) (sm (row t i))) hwF (by rw [HN.out]; exact HFl.out) HO.out (row_lt HFl.out), hEr⟩)
      go_wp2_with fail
      go_ret
      exact Hf.out


set_option maxRecDepth 20000 in
set_option maxHeartbeats 8000000 in
theorem f68_c (a b : Option Addr) (n c c2 m : Nat) (t : Tbl) (l : List Int) (w : World) (hl : Table w a t) (H0 : TOk n m 0 1000000 t) (hb : Ints w b l) (hln : l.length = m) (hlb : ∀ j, j < l.length → 0 ≤ gi l j ∧ gi l j ≤ 30) :
    Calls Try.prog 68 #[.slice a n c, .iface 89 (.slice b m c2)] w (RetT 31 (fitC n m t l) w) := by
  have hn5 := H0.n5
  have hm5 := H0.m5
  have hn1 := H0.n1
  have hm1 := H0.m1
  have HT := Lib.hid H0
  have Hlb := Lib.hid hlb
  obtain ⟨i0, hi0⟩ := infoI
  have Hi := Lib.hid hi0
  have C95 := Lib.hid (f95_c a n c m t w hl ⟨H0.n1, H0.n5, H0.m1, H0.m5, H0.len, H0.cols, fun i j hi hj => by have := H0.bd i j hi hj; omega⟩)
  have hlen := H0.len
  obtain ⟨b0, o0, a0, c0, rfl, hb0, hc0, hI0⟩ := hl 0 (by omega)
  have hm := HT.out.cols 0 (by omega)
  rw [row_at (by omega)] at hm
  rw [hm] at hc0
  simp only [Nat.add_zero] at hc0
  unfold fitC
  have hnm : n * m ≤ 25 := Nat.mul_le_mul hn5 hm5
  obtain ⟨N, hN⟩ : ∃ N, n * m = N := ⟨_, rfl⟩
  have hNi : (n : Int) * (m : Int) = (N : Int) := by rw [← hN]; simp
  have HN := Lib.hid hN
  rw [hN] at hnm
  clear H0 hlb hI0 hm hlen hi0 hN
  go_enter Try.func68, Try.ntmps68
  go_wp2_with fail
  refine C95.out.mono ?_
  rintro e w1 ⟨u, v, B, rfl, hu, rfl, hv, hBu, hBlt, hE1⟩
  rw [rowSums_len] at hu
  rw [colSums_len] at hv
  obtain ⟨au, cu, e, hIu⟩ := ints_of_row hu
  rw [rowSums_len] at e
  subst e
  obtain ⟨av, cv, e, hIv⟩ := ints_of_row hv
  injection e with e1 e2 e3
  subst e1
  clear e2 e3 hu hv hBu
  have hc1 := (hE1.cell' hb0).trans hc0
  clear hc0 C95
  rw [colSums_len]
  go_wp2_with (at_make; refine wpList_make_own _ rfl (.const (.int .i64 0)) (.tmp 25) 31 rfl w1.heap.size 3 i0 (.int .i64 0) 1 Try.underlying31 Hi.out.1 Hi.out.2.1 Hi.out.2.2.1 .i64 .i64 N N rfl rfl rfl (by rw [Hi.out.2.2.2]; omega) (by unfold maxLen; omega) (Nat.le_refl _) ?_; intro w2 hrow hgrow; have hE2 := (Below.refl _ w1).grown hgrow (Nat.le_refl _) (by simp); have Hrow := Lib.hid hrow; clear hrow hgrow)
  have hz2 : w1.heap.size < w2.heap.size := row_lt Hrow.out
  have hE02 := hE1.trans' hE2
  obtain ⟨F, hF⟩ : ∃ F, w1.heap.size = F := ⟨_, rfl⟩
  have hwF : w.heap.size ≤ F := by rw [← hF]; exact hE1.size
  rw [hF] at Hrow hz2 ⊢
  have HF := Lib.hid hF
  clear hF
  go_loopw [7, 8, 9, 10, 11, 12, 13, 29] (fun u v _ _ _ _ _ i wr => ∃ k : Nat, k ≤ n ∧ i = .int .i64 k ∧ Ext w1 wr ∧ u = .slice (some ⟨F, 0, none⟩) (k * m) N ∧ Hid (wr.ownsRow F 3 1 (.slice (some ⟨F, 0, none⟩) (k * m) N) (k * m) ((flatL m (fun i j => shareV (tg t i j) (gi l j) (cs t j)) (k * m)).map (.int .i64))) ∧ Hid (wr.ownsRow (F + 1) 31 1 v k (rvF F m k))) (fun _ _ _ _ _ _ _ i _ => n - (intOf i).toNat)
  case atStart => exact ⟨0, Nat.zero_le _, rfl, hE2, by rw [Nat.zero_mul], by rw [Nat.zero_mul]; exact Hrow, World.ownsRow_nil _ _ _ _⟩
  case round =>
    obtain ⟨k, hk, rfl, hE, rfl, HFl, HO⟩ := hrel
    have hzr : F < wr.heap.size := row_lt HFl.out
    by_cases hlt : k < n
    · have hltt : k < t.length := by rw [HT.out.len]; exact hlt
      obtain ⟨b1, o1, a1, c1, e1, hb1, hcw, hIw⟩ := hl k hltt
      simp only [Option.some.injEq, Addr.mk.injEq, and_true] at e1
      obtain ⟨rfl, rfl⟩ := e1
      have hEw := hE1.trans' hE
      have hc3 := (hEw.cell' hb1).trans hcw
      have hmk := HT.out.cols k hlt
      rw [row_at hltt] at hmk
      rw [hmk] at hc3
      have Hm := Lib.hid hmk
      have hle : k * m + m ≤ N := by rw [← HN.out, show k * m + m = (k + 1) * m by rw [Nat.add_mul, Nat.one_mul]]; exact Nat.mul_le_mul_right m hlt
      have hbz : ∀ q, q < m → Hid ((flatL m (fun i j => shareV (tg t i j) (gi l j) (cs t j)) (k * m + q + 1)).map (Value.int .i64) = (flatL m (fun i j => shareV (tg t i j) (gi l j) (cs t j)) (k * m + q)).map (.int .i64) ++ [.int .i64 ((fun i j => shareV (tg t i j) (gi l j) (cs t j)) k q)]) := fun q hq => Lib.hid (by rw [flatL_succ _ hq, List.map_append]; rfl)
      have hkm : Hid ((k + 1) * m = k * m + m) := Lib.hid (by rw [Nat.add_mul, Nat.one_mul])
      have Hrv := Lib.hid (rvF_succ F m k)
      obtain ⟨z, hz⟩ : ∃ z, k * m = z := ⟨_, rfl⟩
      rw [hz] at HFl hle hbz hkm Hrv ⊢
      clear hmk hcw hc1 hz
      obtain ⟨wo, rfl⟩ : ∃ wo : World, wo = wr := ⟨_, rfl⟩
      go_wp2_with fail
      go_loopw [7, 12, 13, 38] (fun u _ _ j wr => ∃ q : Nat, q ≤ m ∧ j = .int .i64 q ∧ Ext w1 wr ∧ u = .slice (some ⟨F, 0, none⟩) (z + q) N ∧ Hid (wr.ownsRow F 3 1 (.slice (some ⟨F, 0, none⟩) (z + q) N) (z + q) ((flatL m (fun i j => shareV (tg t i j) (gi l j) (cs t j)) (z + q)).map (.int .i64))) ∧ Hid (wr.ownsRow (F + 1) 31 1 u8 k (rvF F m k))) (fun _ _ _ j _ => m - (intOf j).toNat)
      case atStart => exact ⟨0, Nat.zero_le _, rfl, hE, rfl, HFl, HO⟩
      case round =>
        obtain ⟨q, hq, rfl, hE3, rfl, HFl3, HO3⟩ := hrel
        have hzr3 : F < wr.heap.size := row_lt HFl3.out
        have hEw3 := hE1.trans' hE3
        by_cases hlq : q < m
        · obtain ⟨b2, o2, rfl, hb2, hc2⟩ := hIw.ext hEw3 q (by have := Hm.out; omega)
          rw [← gi_at, ← row_at hltt] at hc2
          obtain ⟨b4, o4, rfl, hb4, hc4⟩ := hb.ext hEw3 q (by omega)
          rw [← gi_at] at hc4
          obtain ⟨b5, o5, e5, hb5, hc5⟩ := hIv.ext hE3 q (by rw [colSums_len]; omega)
          obtain ⟨rfl, rfl⟩ : B = b5 ∧ 0 = o5 := by simpa using e5
          rw [← gi_at, gi_colSums hlq, if_neg (by omega), ← cs_n HT.out, Nat.zero_add] at hc5
          have hbd := HT.out.bd k q hlt hlq
          have hlk := Hlb.out q (by omega)
          have hpr := mul_bd hbd hlk
          have hsb := cs_bd HT.out hlq
          have hs2 : cs t q ≤ 5000000 := by have : (n : Int) * 1000000 ≤ 5 * 1000000 := Int.mul_le_mul_of_nonneg_right (by omega) (by omega); omega
          have hs1 := hsb.1
          have Hs := hbz q hlq
          have hx : tg t k q = gi (row t k) q := rfl
          have C := Lib.hid (fun W => f106_c (gi (row t k) q) (gi l q) (cs t q) W ⟨by rw [← hx]; exact hpr.1, by rw [← hx]; omega⟩ ⟨hs1, by omega⟩)
          rw [hx] at Hs
          clear hpr hsb hbd hx
          generalize gi (row t k) q = x at *
          generalize gi l q = y at *
          generalize cs t q = s at *
          generalize shareV x y s = r at *
          go_wp2_with fail
          refine wp_region_ext_tail1 12 (by kernel_rfl) (by kernel_rfl) (by rfl) (by rfl) (fun _ _ _ h => h) ?_
          simp only [List.take_succ_cons, List.take_zero, List.drop_succ_cons, List.drop_zero]
          go_simp
          repeat (go_big_quiet_step ((first | (go_at_call 143; exact quiet_same (f143_c _ _)) | (go_at_call 106; exact quiet_same (C.out _)))))
          refine wpQuiet_nil ?_
          intro w3 hX3
          have HFl4 := Lib.hid (row_ext HFl3.out hX3)
          have HO4 := Lib.hid (row_ext HO3.out hX3)
          have hE4 := hE3.trans' hX3
          have hfar := row_far HO4.out (B := F) (by omega)
          go_wp2_with (at_builtin; refine wpList_push_fits rfl (.tmp 64) (.tmp 76) 31 rfl infoI Try.underlying31 rfl rfl (by simp [Value.oneCell']) HFl4.out (by omega) ?_; intro w5 hown hgrow; have HFl5 := Lib.hid hown; have hE5 := (hE4.alloc (by have := hE4.size; have := HF.out; omega) (.cells #[.int .i64 r] 3)).grown hgrow (by have := hE4.size; simp; omega) (by have := HF.out; simp; omega); have HO5 := Lib.hid (HO4.out.alloc (.cells #[.int .i64 r] 3) |>.kept hgrow (.inr hfar.symm)); clear hown hgrow)
          go_roundw
          case rel => exact ⟨q + 1, by omega, by go_num, hE5, rfl, by rw [← Nat.add_assoc, Hs.out]; exact HFl5, HO5⟩
          case measure => simp [intOf]; omega
        · obtain rfl : q = m := by omega
          have hsw := hE3.size
          have hge : ¬ q < q := by omega
          go_wp2_with (at_builtin; refine wpList_push rfl (.tmp 79) (.tmp 87) 22 rfl infoS Try.underlying22 rfl rfl rfl (by simp [Value.oneCell']) HO3.out (by omega) (by omega) (by omega) ?_; intro v' w' hown hP)
          have hfar := row_far HO3.out (B := F) (by omega)
          have HFl6 := Lib.hid (hP.row HFl3.out (fun g hg => by simp [Value.ownBlock] at hg; subst hg; exact hfar))
          refine ⟨⟨k + 1, by omega, by go_num, hP.ext hE3 HO3.out (by have := HF.out; omega), by rw [hkm.out], by rw [hkm.out]; exact HFl6, by rw [Hrv.out]; exact hown⟩, by simp [intOf]; omega⟩
    · obtain rfl : k = n := by omega
      obtain ⟨a8, c8, e8⟩ := slice_form HO.out
      subst e8
      rw [HN.out] at HFl
      have hEr := hE1.trans' hE
      have Hf := Lib.hid (show RetT 31 (mk k m (fun i j => shareV (tg t i j) (gi l j) (cs t j))) w (.returned (.slice a8 k c8)) wr from ⟨_, rfl, ownT_flat (fun i j => shareV (tg t i j) (gi l j) (cs t j)) hwF (by rw [HN.out]; exact HFl.out) HO.out (row_lt HFl.out), hEr⟩)
      go_wp2_with fail
      go_ret
      exact Hf.out

end Go.Proofs.Ytaidoaggmllcfaa
