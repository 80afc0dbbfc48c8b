/- Contracts of layer 6: the reference's repair. -/
import Derived.Test.YtaidoaggmllcfaaT16
namespace Go.Proofs.Ytaidoaggmllcfaa
open Go.RowKit
attribute [local go_sem] GW.cell

theorem lackR_step {n m : Nat} {x y : List Int} {t : Tbl} (h : TOk n m 0 1000000 t) {i j : Nat} (hi : i < n) (hj : j < m) : (lackR x t n).set i (lr x t i - min (lr x t i) (lc y t j)) = lackR x (stepF x y t i j) n := by
  refine list_ext_gi (by rw [List.length_set, lackR_len, lackR_len]) fun k hk => ?_
  rw [List.length_set, lackR_len] at hk
  rw [gi_set (by rw [lackR_len]; exact hi), gi_lackR hk, gi_lackR hk]
  have := stepF_lr (x := x) (y := y) h hi hj k
  unfold lr at this ⊢
  rw [this]
  split
  · next e => subst e; rfl
  · omega
theorem lackC_step {n m : Nat} {x y : List Int} {t : Tbl} (h : TOk n m 0 1000000 t) {i j : Nat} (hi : i < n) (hj : j < m) : (lackC y t m).set j (lc y t j - min (lr x t i) (lc y t j)) = lackC y (stepF x y t i j) m := by
  refine list_ext_gi (by rw [List.length_set, lackC_len, lackC_len]) fun k hk => ?_
  rw [List.length_set, lackC_len] at hk
  rw [gi_set (by rw [lackC_len]; exact hj), gi_lackC hk, gi_lackC hk]
  have := stepF_lc (x := x) (y := y) h hi hj k
  unfold lc at this ⊢
  rw [this]
  split
  · next e => subst e; rfl
  · omega
theorem lackR_at {x : List Int} {t : Tbl} {n i : Nat} (h : i < n) : (lackR x t n)[i]? = some (lr x t i) := by simp [lackR, lr, h]
theorem lackC_at {y : List Int} {t : Tbl} {m j : Nat} (h : j < m) : (lackC y t m)[j]? = some (lc y t j) := by simp [lackC, lc, h]
theorem OwnL.setHigh {T : TypeId} {W : World} {B U : Nat} {v : Value} {A : Nat → Option Addr} {C G O : Nat → Nat} {t : Tbl} {g i : Nat} {u : Value} (h : OwnL T W B U v A C G O t) (hg : U ≤ g) : OwnL T (W.setCell ⟨g, i, none⟩ u) B U v A C G O t :=
  ⟨by simpa using h.upto, row_set_other h.own (fun e => by have := h.blk g e.symm; omega) _ _, h.blk, fun k hk h0 => by
    obtain ⟨h1, h2, h3, h4, h5⟩ := h.rows k hk h0
    refine ⟨h1, h2, h3, h4, fun j hj => ⟨(World.cell?_setCell_other W _ _ _ (fun e => by injection e with e _; omega)).trans (h5 j hj).1, by rw [World.frozen?_setCell]; exact (h5 j hj).2⟩⟩, h.apart⟩
/-- the filling of a table: the table and what its rows and columns lack, as they lie -/
structure Fill (W : World) (B U n m : Nat) (g cap gr cr gc cc : Nat) (A : Nat → Option Addr) (C G O : Nat → Nat) (x y : List Int) (t : Tbl) : Prop where
  tab : OwnL 31 W B U (.slice (some ⟨g, 0, none⟩) n cap) A C G O t
  rows : W.ownsRow U 3 1 (.slice (some ⟨gr, 0, none⟩) n cr) n ((lackR x t n).map (.int .i64))
  cols : W.ownsRow U 3 1 (.slice (some ⟨gc, 0, none⟩) m cc) m ((lackC y t m).map (.int .i64))
  ne : gr ≠ gc
  hr : U ≤ gr
  hc : U ≤ gc
  ok : FOk n m x y t
theorem Fill.ext {W W' : World} {B U n m g cap gr cr gc cc : Nat} {A : Nat → Option Addr} {C G O : Nat → Nat} {x y : List Int} {t : Tbl} (h : Fill W B U n m g cap gr cr gc cc A C G O x y t) (hE : Ext W W') : Fill W' B U n m g cap gr cr gc cc A C G O x y t :=
  ⟨h.tab.ext hE, row_ext h.rows hE, row_ext h.cols hE, h.ne, h.hr, h.hc, h.ok⟩
/-- one place filled: three stores -/
theorem Fill.step {W : World} {B U n m g cap gr cr gc cc : Nat} {A : Nat → Option Addr} {C G O : Nat → Nat} {x y : List Int} {t : Tbl} (h : Fill W B U n m g cap gr cr gc cc A C G O x y t) (hx : ∀ j, j < n → 0 ≤ gi x j ∧ gi x j ≤ 30) {i j : Nat} (hi : i < n) (hj : j < m) {p q r d : Int} (hp : tg t i j = p) (hq : lr x t i = q) (hr : lc y t j = r) (hd : d = min q r) :
    Fill (((W.setCell ⟨G i, O i + j, none⟩ (.int .i64 (p + d))).setCell ⟨gr, i, none⟩ (.int .i64 (q - d))).setCell ⟨gc, j, none⟩ (.int .i64 (r - d))) B U n m g cap gr cr gc cc A C G O x y (stepF x y t i j) := by
  subst hp hq hr hd
  have h1 : i < t.length := by rw [h.ok.ok.len]; exact hi
  have h2 : j < (row t i).length := by rw [h.ok.ok.cols i hi]; exact hj
  have hG : G i < U := (h.tab.rows i h1 (by omega)).2.2.1
  have e1 := h.hr
  have e2 := h.hc
  refine ⟨?_, ?_, ?_, h.ne, h.hr, h.hc, stepF_ok h.ok hx hi hj⟩
  · exact ((h.tab.store h1 h2 _).setHigh h.hr).setHigh h.hc
  · have a1 := row_set_other h.rows (B := G i) (by simp [Value.ownBlock]; omega) (O i + j) (.int .i64 (tg t i j + min (lr x t i) (lc y t j)))
    have a2 := (a1.stored i (.int .i64 (lr x t i - min (lr x t i) (lc y t j)))).1
    rw [← List.map_set, lackR_step h.ok.ok hi hj] at a2
    exact row_set_other a2 (B := gc) (by simp [Value.ownBlock]; exact fun e => h.ne e.symm) _ _
  · have a1 := row_set_other h.cols (B := G i) (by simp [Value.ownBlock]; omega) (O i + j) (.int .i64 (tg t i j + min (lr x t i) (lc y t j)))
    have a2 := row_set_other a1 (B := gr) (by simp [Value.ownBlock]; exact h.ne) i (.int .i64 (lr x t i - min (lr x t i) (lc y t j)))
    have a3 := (a2.stored j (.int .i64 (lc y t j - min (lr x t i) (lc y t j)))).1
    rw [← List.map_set, lackC_step h.ok.ok hi hj] at a3
    exact a3
/-- all that one place wants of memory -/
theorem Fill.facts {W : World} {B U n m g cap gr cr gc cc : Nat} {A : Nat → Option Addr} {C G O : Nat → Nat} {x y : List Int} {t : Tbl} (h : Fill W B U n m g cap gr cr gc cc A C G O x y t) (hx : ∀ j, j < n → 0 ≤ gi x j ∧ gi x j ≤ 30) (hy : ∀ j, j < m → 0 ≤ gi y j ∧ gi y j ≤ 30) {i j : Nat} (hi : i < n) (hj : j < m) :
    W.cell? ⟨g, i, none⟩ = some (.slice (some ⟨G i, O i, none⟩) m (C i)) ∧ W.cell? ⟨G i, O i + j, none⟩ = some (.int .i64 (tg t i j)) ∧ W.frozen? ⟨G i, O i + j, none⟩ = false ∧
    W.cell? ⟨gr, i, none⟩ = some (.int .i64 (lr x t i)) ∧ W.frozen? ⟨gr, i, none⟩ = false ∧ W.cell? ⟨gc, j, none⟩ = some (.int .i64 (lc y t j)) ∧ W.frozen? ⟨gc, j, none⟩ = false ∧
    (B ≤ G i ∧ G i < U) ∧ (0 ≤ tg t i j ∧ tg t i j ≤ 30000) ∧ (0 ≤ lr x t i ∧ lr x t i ≤ 30000) ∧ (0 ≤ lc y t j ∧ lc y t j ≤ 30000) ∧ g < W.heap.size ∧ G i < W.heap.size ∧ gr < W.heap.size ∧ gc < W.heap.size := by
  have hm1 := h.ok.ok.m1
  obtain ⟨a1, a2, a3, a4⟩ := h.tab.spot h.ok.ok.len rfl hi (h.ok.ok.cols i hi) (by omega)
  have b1 := (h.rows.cellAt i (by omega)).trans (by rw [List.getElem?_map, lackR_at hi, Option.map_some])
  have b2 := (h.cols.cellAt j (by omega)).trans (by rw [List.getElem?_map, lackC_at hj, Option.map_some])
  have c1 := (h.ok.tight hx).bd i j hi hj
  have c2 := h.ok.rows i hi
  have c3 := h.ok.cols j hj
  have c4 := (sm_bd h.ok.ok hi).1
  have c5 := (cs_bd h.ok.ok hj).1
  have c6 := hx i hi
  have c7 := hy j hj
  have hup := h.tab.upto
  refine ⟨a1, (a4 j hj).1, (a4 j hj).2, b1, h.rows.frozenAt i, b2, h.cols.frozenAt j, ⟨a2, a3⟩, c1, ⟨c2, by unfold lr; omega⟩, ⟨c3, by unfold lc; omega⟩, ?_, by omega, row_lt h.rows, row_lt h.cols⟩
  exact Nat.lt_of_lt_of_le (h.tab.blk g rfl) hup
set_option maxRecDepth 20000 in
set_option maxHeartbeats 8000000 in
theorem f97_c (ax bx a : Option Addr) (n m c ca cb : Nat) (x y : List Int) (t : Tbl) (w : World) (hx : Ints w ax x) (hxn : x.length = n) (hxb : ∀ j, j < n → 0 ≤ gi x j ∧ gi x j ≤ 30) (hy : Ints w bx y) (hyn : y.length = m) (hyb : ∀ j, j < m → 0 ≤ gi y j ∧ gi y j ≤ 30)
    (hl : Table w a t) (H0 : TOk n m 0 150000 t) :
    Calls Try.prog 97 #[.slice ax n ca, .slice bx m cb, .slice a n c] w (RetT 31 (repV n m x y t) w) := by
  have hn5 := H0.n5
  have hm5 := H0.m5
  have hn1 := H0.n1
  have hm1 := H0.m1
  have K1 := cutR_ok H0 hxb
  have K2 := turn_ok K1
  have K3 := cutR_ok K2 hyb
  have K4 := cutC_ok K1 hyb
  have K5 := turn_ok K4
  have Hfo := Lib.hid (cut_fok H0 hxb hyb)
  have C1 := Lib.hid (f121_c a ax n m c ca x t w hl H0 hx hxn hxb)
  have C2 := Lib.hid (fun a1 c1 W (h : Table W a1 (cutR n m t x)) => f71_c a1 n c1 m _ W h K1.len K1.n1 K1.n5 K1.m5 K1.cols)
  have C3 := Lib.hid (fun a1 c1 W (h : Table W a1 (turnT n m (cutR n m t x))) (hE : Ext w W) => f121_c a1 bx m n c1 cb y _ W h K2 (hy.ext hE) hyn hyb)
  have C4 := fun a1 c1 W (h : Table W a1 (cutR m n (turnT n m (cutR n m t x)) y)) => f71_c a1 m c1 n _ W h K3.len K3.n1 K3.n5 K3.m5 K3.cols
  rw [turn_cut K1 y] at C4
  have C4 := Lib.hid C4
  have C5 := Lib.hid (fun a1 c1 W (h : Table W a1 (cutC n m (cutR n m t x) y)) (hE : Ext w W) => f120_c a1 ax n m c1 ca x _ W h (K4.weak (by omega)) (hx.ext hE) hxn hxb)
  have C6 := Lib.hid (fun a1 c1 W (h : Table W a1 (cutC n m (cutR n m t x) y)) => f71_c a1 n c1 m _ W h K4.len K4.n1 K4.n5 K4.m5 K4.cols)
  have C7 := fun a1 c1 W (h : Table W a1 (turnT n m (cutC n m (cutR n m t x) y))) (hE : Ext w W) => f120_c a1 bx m n c1 cb y _ W h (K5.weak (by omega)) (hy.ext hE) hyn hyb
  rw [lackR_turn K4] at C7
  have C7 := Lib.hid C7
  have L1 := Lib.hid K1.len
  have L2 := Lib.hid K2.len
  have L3 := Lib.hid K3.len
  have L4 := Lib.hid K4.len
  have L5 := Lib.hid K5.len
  have Hxb := Lib.hid hxb
  have Hyb := Lib.hid hyb
  unfold repV
  clear hx hxn hxb hy hyn hyb hl H0 K1 K2 K3 K4 K5
  generalize cutC n m (cutR n m t x) y = T0 at *
  generalize turnT n m T0 = T0' at *
  generalize cutR m n (turnT n m (cutR n m t x)) y = T3 at *
  generalize turnT n m (cutR n m t x) = T2 at *
  generalize cutR n m t x = T1 at *
  go_enter Try.func97, Try.ntmps97
  go_wp2_with fail
  refine C1.out.mono ?_
  rintro e w1 ⟨v1, rfl, hT, hE1⟩
  obtain ⟨a1, c1, rfl, hT1⟩ := hT.table
  rw [L1.out]
  have HT1 := Lib.hid hT1
  clear hT hT1
  go_wp2_with fail
  refine (C2.out _ _ _ HT1.out).mono ?_
  rintro e w2 ⟨v2, rfl, hT, hE2⟩
  obtain ⟨a2, c2, rfl, hT2⟩ := hT.table
  rw [L2.out]
  have HT2 := Lib.hid hT2
  have hE2 := hE1.trans' hE2
  clear hT hT2
  go_wp2_with fail
  refine (C3.out _ _ _ HT2.out hE2).mono ?_
  rintro e w3 ⟨v3, rfl, hT, hE3⟩
  obtain ⟨a3, c3, rfl, hT3⟩ := hT.table
  rw [L3.out]
  have HT3 := Lib.hid hT3
  have hE3 := hE2.trans' hE3
  clear hT hT3
  go_wp2_with fail
  refine (C4.out _ _ _ HT3.out).mono ?_
  rintro e w4 ⟨v4, rfl, hT, hX4⟩
  obtain ⟨A, C, G, O, HL⟩ := hT
  obtain ⟨g, cap, hv, hgB, hgU, _⟩ := HL.top (i := 0) (by rw [L4.out]; omega)
  rw [L4.out] at hv
  subst hv
  obtain ⟨a4, c4, e4, hT4⟩ := (show OwnT 31 w4 w3.heap.size w4.heap.size _ T0 from ⟨A, C, G, O, HL⟩).table
  rw [L4.out] at e4
  injection e4 with e4 _ e5
  subst e4
  subst e5
  have HT4 := Lib.hid hT4
  have HL := Lib.hid HL
  have hE4 := hE3.trans' hX4
  clear hT4
  go_wp2_with fail
  refine (C5.out _ _ _ HT4.out hE4).mono ?_
  rintro e w5 ⟨v5, rfl, hr5, hX5⟩
  rw [lackR_len] at hr5
  obtain ⟨gr, cr, rfl, hgr, hgr2⟩ := ownsRow_form hr5 (by omega)
  have HR := Lib.hid hr5
  have HT5 := Lib.hid (HT4.out.ext hX5)
  have hE5 := hE4.trans' hX5
  clear hr5
  go_wp2_with fail
  refine (C6.out _ _ _ HT5.out).mono ?_
  rintro e w6 ⟨v6, rfl, hT, hX6⟩
  obtain ⟨a6, c6, rfl, hT6⟩ := hT.table
  rw [L5.out]
  have HT6 := Lib.hid hT6
  have hE6 := hE5.trans' hX6
  clear hT hT6
  go_wp2_with fail
  refine (C7.out _ _ _ HT6.out hE6).mono ?_
  rintro e w7 ⟨v7, rfl, hr7, hX7⟩
  rw [lackC_len] at hr7
  obtain ⟨gc, cc, rfl, hgc, hgc2⟩ := ownsRow_form hr7 (by omega)
  have hE7 := hE6.trans' hX7
  have hX57 := hX6.trans' hX7
  have s4 := hX4.size
  have s5 := hX5.size
  have s6 := hX6.size
  have s3 := hE3.size
  have hF : Fill w7 w3.heap.size w4.heap.size n m g cap gr cr gc cc A C G O x y (fillTo m x y T0 0) :=
    ⟨HL.out.ext (hX5.trans' hX57), row_ext HR.out hX57, row_base hr7 (by omega), by omega, hgr, by omega, Hfo.out⟩
  have HF := Lib.hid hF
  have Hfs := Lib.hid (fun k q (_ : k < n) (hq : q < m) => (by
    show stepF x y (fillTo m x y T0 (k * m + q)) ((k * m + q) / m) ((k * m + q) % m) = stepF x y (fillTo m x y T0 (k * m + q)) k q
    rw [(rank_step hq).1, (rank_step hq).2] : fillTo m x y T0 (k * m + q + 1) = stepF x y (fillTo m x y T0 (k * m + q)) k q))
  clear hF hr7
  generalize fillTo m x y T0 = FT at *
  go_wp2_with fail
  go_loopw [9, 10, 11] (fun i _ _ wr => ∃ k : Nat, k ≤ n ∧ i = .int .i64 k ∧ Ext w wr ∧ Hid (Fill wr w3.heap.size w4.heap.size n m g cap gr cr gc cc A C G O x y (FT (k * m)))) (fun i _ _ _ => n - (intOf i).toNat)
  case atStart => exact ⟨0, Nat.zero_le _, rfl, hE7, by rw [Nat.zero_mul]; exact HF⟩
  case round =>
    obtain ⟨k, hk, rfl, hE, H⟩ := hrel
    by_cases hlt : k < n
    · obtain ⟨wo, rfl⟩ : ∃ wo : World, wo = wr := ⟨_, rfl⟩
      go_wp2_with fail
      go_loopw [10, 11] (fun j _ wr => ∃ q : Nat, q ≤ m ∧ j = .int .i64 q ∧ Ext w wr ∧ Hid (Fill wr w3.heap.size w4.heap.size n m g cap gr cr gc cc A C G O x y (FT (k * m + q)))) (fun j _ _ => m - (intOf j).toNat)
      case atStart => exact ⟨0, Nat.zero_le _, rfl, hE, H⟩
      case round =>
        obtain ⟨q, hq, rfl, hE3', H3⟩ := hrel
        by_cases hlq : q < m
        · have Hs := Lib.hid (Hfs.out k q hlt hlq)
          have Hst := Lib.hid (fun W (h : Fill W w3.heap.size w4.heap.size n m g cap gr cr gc cc A C G O x y (FT (k * m + q))) (d : Int) (hd : d = min (lr x (FT (k * m + q)) k) (lc y (FT (k * m + q)) q)) => h.step Hxb.out hlt hlq rfl rfl rfl hd)
          rw [← Hs.out] at Hst
          have Hfa := Lib.hid (fun W (h : Fill W w3.heap.size w4.heap.size n m g cap gr cr gc cc A C G O x y (FT (k * m + q))) => h.facts Hxb.out Hyb.out hlt hlq)
          obtain ⟨f1, f2, f3, f4, f5, f6, f7, f8, f9, f10, f11, f12, f13, f14, f15⟩ := Hfa.out _ H3.out
          generalize tg (FT (k * m + q)) k q = vp at *
          generalize lr x (FT (k * m + q)) k = vq at *
          generalize lc y (FT (k * m + q)) q = vr at *
          clear f1 f2 f3 f5 f7
          go_wp2_with fail
          refine wp_region_ext (by kernel_rfl) (by kernel_rfl) ?_
          repeat (go_big_quiet_step (fail))
          refine wpQuiet_nil ?_
          intro w8 hX8
          have hE8 := hE3'.trans' hX8
          have HF8 := Lib.hid (H3.out.ext hX8)
          clear f4 f6 f8 f9 f10 f11 f12 f13 f14 f15
          obtain ⟨f1, f2, f3, f4, f5, f6, f7, f8, f9, f10, f11, f12, f13, f14, f15⟩ := Hfa.out _ HF8.out
          obtain ⟨d, hd⟩ : ∃ d, d = min vq vr := ⟨_, rfl⟩
          have hd1 : 0 ≤ d ∧ d ≤ 30000 := by omega
          have HX := Lib.hid (Hst.out w8 HF8.out d hd)
          rw [← hd]
          clear hd
          have ne1 : G k ≠ gr := by omega
          have ne2 : G k ≠ gc := by omega
          have ne3 : gr ≠ gc := H3.out.ne
          have le1 : w.heap.size ≤ G k := by omega
          have le2 : w.heap.size ≤ gr := by omega
          have le3 : w.heap.size ≤ gc := by omega
          go_wp2_with fail
          go_roundw
          case rel => exact ⟨q + 1, by omega, by go_num, ((hE8.setCell le1 _).setCell le2 _).setCell le3 _, HX⟩
          case measure => simp [intOf]; omega
        · obtain rfl : q = m := by omega
          have e : Hid (k * q + q = (k + 1) * q) := Lib.hid (by rw [Nat.add_mul, Nat.one_mul])
          rw [e.out] at H3
          go_wp2_with fail
          go_roundw
          case rel => exact ⟨k + 1, by omega, by go_num, hE3', H3⟩
          case measure => simp [intOf]; omega
    · obtain rfl : k = n := by omega
      have Hf := Lib.hid (show RetT 31 (FT (k * m)) w (.returned (.slice (some ⟨g, 0, none⟩) k cap)) wr from ⟨_, rfl, (OwnT.low (B := w3.heap.size) ⟨A, C, G, O, (H.out.tab.up H.out.tab.upto (Nat.le_refl _))⟩ s3), hE⟩)
      go_wp2_with fail
      go_ret
      exact Hf.out

end Go.Proofs.Ytaidoaggmllcfaa
