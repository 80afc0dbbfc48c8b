/- Contracts of layer 6: the program's repair. -/
import Derived.Test.YtaidoaggmllcfaaT18
namespace Go.Proofs.Ytaidoaggmllcfaa
open Go.RowKit
attribute [local go_sem] GW.cell

/-- the first q columns cut, and p places of the next one -/
def cutCTo (n m : Nat) (t : Tbl) (y : List Int) (q p : Nat) : Tbl := mk n m fun i j => if (j < q ∨ (j = q ∧ i < p)) ∧ lc y t j < 0 then shareV (tg t i j) (gi y j) (cs t j) else tg t i j
theorem cutCTo_len (n m : Nat) (t : Tbl) (y : List Int) (q p : Nat) : (cutCTo n m t y q p).length = n := mk_len _ _ _
theorem cutCTo_cols {n m : Nat} {t : Tbl} {y : List Int} {q p i : Nat} (h : i < n) : (row (cutCTo n m t y q p) i).length = m := mk_cols _ h
theorem cutCTo_zero {n m : Nat} {t : Tbl} {y : List Int} {lo hi : Int} (h : TOk n m lo hi t) : cutCTo n m t y 0 0 = t := by
  have : cutCTo n m t y 0 0 = mk n m (tg t) := mk_eq fun i j _ _ => by rw [if_neg (by omega)]
  rw [this]; exact mk_of h.len h.cols
theorem cutCTo_all {n m : Nat} {t : Tbl} {y : List Int} : cutCTo n m t y m 0 = cutC n m t y := mk_eq fun i j _ hj => by
  by_cases h : lc y t j < 0
  · rw [if_pos ⟨.inl hj, h⟩, if_pos h]
  · rw [if_neg (fun e => h e.2), if_neg h]
theorem cutCTo_next {n m : Nat} {t : Tbl} {y : List Int} {q : Nat} : cutCTo n m t y q n = cutCTo n m t y (q + 1) 0 := mk_eq fun i j hi _ => by
  by_cases h : lc y t j < 0
  · by_cases h1 : j < q + 1
    · rw [if_pos ⟨by omega, h⟩, if_pos ⟨by omega, h⟩]
    · rw [if_neg (by omega), if_neg (by omega)]
  · rw [if_neg (fun e => h e.2), if_neg (fun e => h e.2)]
theorem cutCTo_skip {n m : Nat} {t : Tbl} {y : List Int} {q p : Nat} (h : ¬ lc y t q < 0) : cutCTo n m t y q (p + 1) = cutCTo n m t y q p := mk_eq fun i j _ _ => by
  by_cases h2 : lc y t j < 0
  · by_cases e : j = q
    · subst e; exact absurd h2 h
    · by_cases h1 : j < q
      · rw [if_pos ⟨.inl h1, h2⟩, if_pos ⟨.inl h1, h2⟩]
      · rw [if_neg (by omega), if_neg (by omega)]
  · rw [if_neg (fun e => h2 e.2), if_neg (fun e => h2 e.2)]
theorem cutCTo_set {n m : Nat} {t : Tbl} {y : List Int} {q p : Nat} (hp : p < n) (hq : q < m) (h : lc y t q < 0) : setT (cutCTo n m t y q p) p q (tg (fitC n m t y) p q) = cutCTo n m t y q (p + 1) := by
  have hl : p < (cutCTo n m t y q p).length := by rw [cutCTo_len]; exact hp
  refine tbl_ext (by rw [setT_len, cutCTo_len, cutCTo_len]) (fun i hi => ?_) (fun i j hi hj => ?_)
  · rw [setT_len, cutCTo_len] at hi; rw [cols_setT _ _ hl, cutCTo_cols hi, cutCTo_cols hi]
  · rw [setT_len, cutCTo_len] at hi; rw [cols_setT _ _ hl, cutCTo_cols hi] at hj
    rw [tg_setT _ _ hl (by rw [cutCTo_cols hp]; exact hq)]
    unfold cutCTo fitC
    rw [tg_mk _ hi hj, tg_mk _ hi hj, tg_mk _ hp hq]
    by_cases e : i = p ∧ j = q
    · obtain ⟨rfl, rfl⟩ := e
      rw [if_pos ⟨rfl, rfl⟩, if_pos ⟨.inr ⟨rfl, by omega⟩, h⟩]
    · rw [if_neg e]
      by_cases h2 : lc y t j < 0
      · by_cases h1 : j < q ∨ (j = q ∧ i < p)
        · rw [if_pos ⟨h1, h2⟩, if_pos ⟨by omega, h2⟩]
        · rw [if_neg (fun e => h1 e.1), if_neg (by omega)]
      · rw [if_neg (fun e => h2 e.2), if_neg (fun e => h2 e.2)]
set_option maxRecDepth 20000 in
set_option maxHeartbeats 16000000 in
theorem f81_c (ax bx a : Option Addr) (n m c ca cb : Nat) (x y : List Int) (t : Tbl) (w : World) (hx : Ints w ax x) (hxn : x.length = n) (hxb : ∀ j, j < n → 0 ≤ gi x j ∧ gi x j ≤ 30) (hy : Ints w bx y) (hyn : y.length = m) (hyb : ∀ j, j < m → 0 ≤ gi y j ∧ gi y j ≤ 30)
    (hl : Table w a t) (H0 : TOk n m 0 150000 t) :
    Calls Try.prog 81 #[.slice ax n ca, .slice bx m cb, .slice a n c] w (RetT 31 (repV n m x y t) w) := by
  have hn5 := H0.n5
  have hm5 := H0.m5
  have hn1 := H0.n1
  have hm1 := H0.m1
  have HT := Lib.hid H0
  have K1 := cutR_ok H0 hxb
  have K4 := cutC_ok K1 hyb
  have Hfo := Lib.hid (cut_fok H0 hxb hyb)
  have M1 := Lib.hid (fun a1 c1 W (h : Table W a1 t) (hE : Ext w W) => f112_c ax bx a1 n m c1 ca cb x y t W (hx.ext hE) hxn hxb (hy.ext hE) hyn hyb h (H0.weak (by omega)))
  have M2 := Lib.hid (fun a1 c1 W (h : Table W a1 (cutR n m t x)) (hE : Ext w W) => f112_c ax bx a1 n m c1 ca cb x y _ W (hx.ext hE) hxn hxb (hy.ext hE) hyn hyb h (K1.weak (by omega)))
  have M3 := Lib.hid (fun a1 c1 W (h : Table W a1 (cutC n m (cutR n m t x) y)) (hE : Ext w W) => f112_c ax bx a1 n m c1 ca cb x y _ W (hx.ext hE) hxn hxb (hy.ext hE) hyn hyb h (K4.weak (by omega)))
  have D1 := Lib.hid (fun a1 c1 W (h : Table W a1 t) (hE : Ext w W) => f68_r a1 ax n c1 ca m t x W h (H0.weak (by omega)) (hx.ext hE) hxn (by rw [hxn]; exact hxb))
  have D2 := Lib.hid (fun a1 c1 W (h : Table W a1 (cutR n m t x)) (hE : Ext w W) => f68_c a1 bx n c1 cb m _ y W h (K1.weak (by omega)) (hy.ext hE) hyn (by rw [hyn]; exact hyb))
  have HK1 := Lib.hid K1
  have HK4 := Lib.hid K4
  have Hxb := Lib.hid hxb
  have Hyb := Lib.hid hyb
  have Hrep : Hid (repV n m x y t = fillTo m x y (cutC n m (cutR n m t x) y) (n * m)) := Lib.hid rfl
  have hlen := H0.len
  clear H0 K1 K4 hxb hyb hxn hyn hx hy
  subst hlen
  go_enter Try.func81, Try.ntmps81
  go_wp2_with fail
  go_loopw [7, 9, 25] (fun v _ i wr => ∃ k : Nat, k ≤ t.length ∧ i = .int .i64 k ∧ Ext w wr ∧ Hid (OwnT 31 wr w.heap.size wr.heap.size v (t.take k))) (fun _ _ i _ => t.length - (intOf i).toNat)
  case atStart => exact ⟨0, Nat.zero_le _, rfl, Below.refl _ _, OwnT.nil _ _ _⟩
  case round =>
    obtain ⟨k, hk, rfl, hE, H⟩ := hrel
    by_cases hlt : k < t.length
    · obtain ⟨b1, o1, a1, c1, rfl, hb1, hc1, hI1⟩ := hl.ext hE k hlt
      have hmk := HT.out.cols k hlt
      rw [row_at hlt] at hmk
      obtain ⟨b2, o2, rfl, _, _⟩ := hI1 0 (by omega)
      have Cc := Lib.hid (f111_c b2 o2 t[k].length c1 t[k] wr hI1 rfl (by omega))
      have Hml := Lib.hid hmk
      obtain ⟨A, C, G, O, HL⟩ := H.out
      have HL1 := Lib.hid HL
      have hsz := hE.size
      have Htk : Hid ((t.take k).length = k) := Lib.hid (by simp; omega)
      have Hs := Lib.hid (List.take_succ_eq_append_getElem hlt)
      clear HL H hmk hI1
      go_wp2_with fail
      refine Cc.out.mono ?_
      rintro e w1 ⟨v1, rfl, hr1, hE1⟩
      obtain ⟨a8, c8, rfl⟩ := slice_form hr1
      have Hown := Lib.hid hr1
      have HL2 := Lib.hid (HL1.out.ext hE1)
      have hsz1 := hE1.size
      clear hr1 Cc
      go_wp2_with (at_builtin; refine wpList_push rfl (.tmp 29) (.tmp 32) 22 rfl infoS Try.underlying22 rfl rfl rfl (by simp [Value.oneCell']) HL2.out.own (by rw [Htk.out]; omega) (by omega) (by omega) ?_; intro v' w' hown hP)
      go_roundw
      case rel =>
        have hr := HL1.out.push2 t[k] rfl Htk.out hE1 Hown.out (Nat.le_refl _) hE.size hP (by rw [Htk.out] at hown; exact hown)
        exact ⟨k + 1, by omega, by go_num, hP.ext (hE.trans' hE1) HL2.out.own (Nat.le_refl _), by rw [Hs.out]; exact hr⟩
      case measure => simp [intOf]; omega
    · obtain rfl : k = t.length := by omega
      have H2 := H.out
      rw [List.take_length] at H2
      obtain ⟨A1, C1, G1, O1, HL1⟩ := H2
      obtain ⟨g, cap, hv, hgB, hgU, _⟩ := HL1.top (i := 0) (by omega)
      subst hv
      obtain ⟨a4, c4, e4, hT4⟩ := (show OwnT 31 wr w.heap.size wr.heap.size _ t from ⟨A1, C1, G1, O1, HL1⟩).table
      injection e4 with e4 e6 e5
      clear e6
      subst e4
      subst e5
      have HT1 := Lib.hid hT4
      have HL1 := Lib.hid HL1
      clear hT4 H hl
      obtain ⟨w1, rfl⟩ : ∃ w1 : World, w1 = wr := ⟨_, rfl⟩
      go_wp2_with fail
      refine (M1.out _ _ _ HT1.out hE).mono ?_
      rintro e w2 ⟨u2, v2, B2, rfl, hu2, rfl, hv2, _, _, hE2⟩
      rw [lackR_len] at hu2
      rw [lackC_len]
      obtain ⟨gu, cu, rfl, hgu, _⟩ := ownsRow_form hu2 (by omega)
      have HU2 := Lib.hid hu2
      have hX2 := hE.trans' hE2
      have HT2 := Lib.hid (HT1.out.ext hE2)
      clear hu2 hv2
      go_wp2_with fail
      refine (D1.out _ _ _ HT2.out hX2).mono ?_
      rintro e w3 ⟨v3, rfl, ⟨A2, C2, G2, O2, HL2⟩, hE3⟩
      obtain ⟨g2, cap2, hv, hgB2, hgU2, _⟩ := HL2.top (i := 0) (by rw [show (fitR t.length m t x).length = t.length from mk_len _ _ _]; omega)
      rw [show (fitR t.length m t x).length = t.length from mk_len _ _ _] at hv
      subst hv
      have HL2 := Lib.hid HL2
      have hX3 := hX2.trans' hE3
      have s1 := hE.size
      have s2 := hE2.size
      have s3 := hE3.size
      have hM0 : Mixed w3 w.heap.size w1.heap.size w3.heap.size (.slice (some ⟨g, 0, none⟩) t.length cap) t.length A1 A2 C1 C2 G1 G2 O1 O2 0 (cutTo t.length m t x 0) := ⟨A1, C1, G1, O1, by rw [cutTo_zero HT.out]; exact (HL1.out.ext (hE2.trans' hE3)).up (by omega) (Nat.le_refl _), fun i _ => .inl ⟨rfl, rfl, rfl, rfl⟩⟩
      have HM0 := Lib.hid hM0
      have HG1 := Lib.hid (fun i (hi : i < t.length) (h0 : 0 < m) => ((HL1.out.rows i hi (by rw [HT.out.cols i hi]; exact h0)).2.2.1 : G1 i < w1.heap.size))
      have hIu : Ints w3 (some ⟨gu, 0, none⟩) (lackR x t t.length) := by
        obtain ⟨a', c', e, hI⟩ := ints_of_row HU2.out
        injection e with e _ _
        subst e
        exact hI.ext hE3
      have HIu := Lib.hid hIu
      have Hsc : Hid (∀ i, i < t.length → (row (fitR t.length m t x) i).length = m) := Lib.hid (fun i hi => mk_cols _ hi)
      have Hsl : Hid ((fitR t.length m t x).length = t.length) := Lib.hid (mk_len _ _ _)
      have Hll : Hid ((lackR x t t.length).length = t.length) := Lib.hid (lackR_len _ _ _)
      have Hlg := Lib.hid (fun k (hk : k < t.length) => (gi_lackR hk : gi (lackR x t t.length) k = gi x k * 1000 - sm (row t k)))
      have Hcl := Lib.hid (fun k => cutTo_len t.length m t x k)
      have Hcc := Lib.hid (fun k i (hi : i < t.length) => cutTo_cols (m := m) (t := t) (x := x) (k := k) hi)
      have Hct := Lib.hid (fun k (hk : k < t.length) (h : lr x t k < 0) => cutTo_take (m := m) hk h)
      have Hcs : Hid (∀ k, ¬ lr x t k < 0 → cutTo t.length m t x (k + 1) = cutTo t.length m t x k) := Lib.hid (fun k h => cutTo_skip h)
      have Hca := Lib.hid (cutTo_all (n := t.length) (m := m) (t := t) (x := x))
      clear hM0 hIu HT1 HT2 HU2
      go_wp2_with fail
      go_loopw [13, 14, 48] (fun _ _ i wr => ∃ k : Nat, k ≤ t.length ∧ i = .int .i64 k ∧ Ext w wr ∧ w3.heap.size ≤ wr.heap.size ∧ Hid (Ints wr (some ⟨gu, 0, none⟩) (lackR x t t.length)) ∧ Hid (OwnL 31 wr w2.heap.size w3.heap.size (.slice (some ⟨g2, 0, none⟩) t.length cap2) A2 C2 G2 O2 (fitR t.length m t x)) ∧ Hid (Mixed wr w.heap.size w1.heap.size w3.heap.size (.slice (some ⟨g, 0, none⟩) t.length cap) t.length A1 A2 C1 C2 G1 G2 O1 O2 k (cutTo t.length m t x k))) (fun _ _ i _ => t.length - (intOf i).toNat)
      case atStart => exact ⟨0, Nat.zero_le _, rfl, hX3, Nat.le_refl _, HIu, HL2, HM0⟩
      case round =>
        obtain ⟨k, hk, rfl, hE4, hs4, HI, HS, HM⟩ := hrel
        by_cases hlt : k < t.length
        · obtain ⟨b4, o4, e4, hb4, hc4⟩ := HI.out k (by rw [Hll.out]; exact hlt)
          simp only [Option.some.injEq, Addr.mk.injEq, and_true] at e4
          obtain ⟨rfl, rfl⟩ := e4
          rw [← gi_at, Hlg.out k hlt, Nat.zero_add] at hc4
          by_cases hneg : lr x t k < 0
          · have hd : decide (gi x k * 1000 - sm (row t k) < 0) = true := by simpa [lr] using hneg
            obtain ⟨ht, _, _, _⟩ := HS.out.spot Hsl.out rfl hlt (Hsc.out k hlt) (by omega)
            have hMo : wr.cell? ⟨g, k, none⟩ ≠ none ∧ wr.frozen? ⟨g, k, none⟩ = false := by
              obtain ⟨A, C, G, O, hL, _⟩ := HM.out
              have ho := hL.own
              rw [Hcl.out k] at ho
              exact ⟨by rw [row_cell ho (rv_at (A := A) (C := C) (by rw [Hcl.out k]; exact hlt))]; simp, ho.frozenAt k⟩
            obtain ⟨u0, hu0⟩ : ∃ u0, wr.cell? ⟨g, k, none⟩ = some u0 := Option.ne_none_iff_exists'.1 hMo.1
            have hfz := hMo.2
            have hA2 : A2 k = some ⟨G2 k, O2 k, none⟩ := (HS.out.rows k (by rw [Hsl.out]; exact hlt) (by rw [Hsc.out k hlt]; omega)).1
            have hM := HM.out.lay HG1.out (Hcl.out k) HS.out Hsl.out (fun i hi => Hcc.out k i hi) Hsc.out (by omega) s2 hgU hlt
            rw [hA2, Hct.out k hlt hneg] at hM
            have HM2 := Lib.hid hM
            have HS2 := Lib.hid (HS.out.setLow (g := g) (i := k) (u := .slice (some ⟨G2 k, O2 k, none⟩) m (C2 k)) (by omega))
            have HI2 := Lib.hid (ints_setOther (g := g) (i := k) (u := .slice (some ⟨G2 k, O2 k, none⟩) m (C2 k)) HI.out (fun b o s e => by injection e with e; injection e with e; omega))
            clear hM hneg hMo hA2
            generalize gi x k * 1000 - sm (row t k) = z at *
            go_wp2_with fail
            go_roundw
            case rel => exact ⟨k + 1, by omega, by go_num, hE4.setCell (show w.heap.size ≤ g by omega) _, by simpa using hs4, HI2, HS2, HM2⟩
            case measure => simp [intOf]; omega
          · have hd : decide (gi x k * 1000 - sm (row t k) < 0) = false := by simpa [lr] using hneg
            have HM2 := Lib.hid HM.out.more
            rw [← Hcs.out k (by first | exact hneg | omega)] at HM2
            clear hneg
            generalize gi x k * 1000 - sm (row t k) = z at *
            go_wp2_with fail
            go_roundw
            case rel => exact ⟨k + 1, by omega, by go_num, hE4, hs4, HI, HS, HM2⟩
            case measure => simp [intOf]; omega
        · obtain rfl : k = t.length := by omega
          have hM := HM.out
          rw [Hca.out] at hM
          obtain ⟨A, C, G, O, hL, _⟩ := hM
          have HL := Lib.hid hL
          clear hL HM HS HI HM0 HL2 HIu HG1 Hsc Hsl Hll Hlg Hcl Hcc Hct Hcs Hca HL1 M1 D1
          obtain ⟨w4, rfl⟩ : ∃ w4 : World, w4 = wr := ⟨_, rfl⟩
          generalize cutR t.length m t x = T1 at *
          obtain ⟨a4, c4, e4, hT4⟩ := (show OwnT 31 w4 w.heap.size w3.heap.size _ T1 from ⟨A, C, G, O, HL.out⟩).table
          injection e4 with e4 e6 e5
          clear e6
          subst e4
          subst e5
          have HT4 := Lib.hid hT4
          clear hT4
          go_wp2_with fail
          refine (M2.out _ _ _ HT4.out hE4).mono ?_
          rintro e w5 ⟨u5, v5, B5, rfl, hu5, rfl, hv5, _, _, hE5⟩
          rw [lackC_len] at hv5 ⊢
          rw [lackR_len] at hu5
          obtain ⟨au5, cu5, rfl⟩ := slice_form hu5
          have hg5 : w4.heap.size ≤ B5 := by
            obtain ⟨g5, cp5, e, hg5, _⟩ := ownsRow_form hv5 (by omega)
            injection e with e _ _
            injection e with e
            injection e with e
            omega
          have hI5 : Ints w5 (some ⟨B5, 0, none⟩) (lackC y T1 m) := by
            obtain ⟨a', c', e, hI5⟩ := ints_of_row hv5
            injection e with e _ _
            subst e
            exact hI5
          have HI5 := Lib.hid hI5
          have hX5 := hE4.trans' hE5
          have HT5 := Lib.hid (HT4.out.ext hE5)
          clear hu5 hv5 hI5 HT4
          go_wp2_with fail
          refine (D2.out _ _ _ HT5.out hX5).mono ?_
          rintro e w6 ⟨v6, rfl, ⟨A6, C6, G6, O6, HL6⟩, hE6⟩
          have hl6 : (fitC t.length m T1 y).length = t.length := mk_len _ _ _
          obtain ⟨g6, cap6, hv, hgB6, hgU6, _⟩ := HL6.top (i := 0) (by omega)
          rw [hl6] at hv
          subst hv
          have HL6 := Lib.hid HL6
          have Hl6 := Lib.hid hl6
          have Hc6 : Hid (∀ i, i < t.length → (row (fitC t.length m T1 y) i).length = m) := Lib.hid (fun i hi => mk_cols _ hi)
          have hX6 := hX5.trans' hE6
          have s5 := hE5.size
          have s6 := hE6.size
          have HL := Lib.hid (HL.out.ext (hE5.trans' hE6))
          have hL0 : OwnL 31 w6 w.heap.size w3.heap.size (.slice (some ⟨g, 0, none⟩) t.length cap) A C G O (cutCTo t.length m T1 y 0 0) := by rw [cutCTo_zero HK1.out]; exact HL.out
          have HL0 := Lib.hid hL0
          have HI6 := Lib.hid (HI5.out.ext hE6)
          have Hlc : Hid ((lackC y T1 m).length = m) := Lib.hid (lackC_len _ _ _)
          have Hlg := Lib.hid (fun k (hk : k < m) => (gi_lackC hk : gi (lackC y T1 m) k = gi y k * 1000 - cs T1 k))
          have Hkl := Lib.hid (fun q p => cutCTo_len t.length m T1 y q p)
          have Hkc := Lib.hid (fun q p i (hi : i < t.length) => cutCTo_cols (m := m) (t := T1) (y := y) (q := q) (p := p) hi)
          have Hks := Lib.hid (fun q p (hp : p < t.length) (hq : q < m) (h : lc y T1 q < 0) => cutCTo_set hp hq h)
          have Hkk : Hid (∀ q p, ¬ lc y T1 q < 0 → cutCTo t.length m T1 y q (p + 1) = cutCTo t.length m T1 y q p) := Lib.hid (fun q p h => cutCTo_skip h)
          have Hkn : Hid (∀ q, cutCTo t.length m T1 y q t.length = cutCTo t.length m T1 y (q + 1) 0) := Lib.hid (fun q => cutCTo_next)
          have Hka := Lib.hid (cutCTo_all (n := t.length) (m := m) (t := T1) (y := y))
          clear hL0 hl6 HI5 HT5 M2 D2
          go_wp2_with fail
          go_loopw [17, 18, 19, 76] (fun _ _ _ j wr => ∃ q : Nat, q ≤ m ∧ j = .int .i64 q ∧ Ext w wr ∧ w6.heap.size ≤ wr.heap.size ∧ Hid (Ints wr (some ⟨B5, 0, none⟩) (lackC y T1 m)) ∧ Hid (OwnL 31 wr w5.heap.size w6.heap.size (.slice (some ⟨g6, 0, none⟩) t.length cap6) A6 C6 G6 O6 (fitC t.length m T1 y)) ∧ Hid (OwnL 31 wr w.heap.size w3.heap.size (.slice (some ⟨g, 0, none⟩) t.length cap) A C G O (cutCTo t.length m T1 y q 0))) (fun _ _ _ j _ => m - (intOf j).toNat)
          case atStart => exact ⟨0, Nat.zero_le _, rfl, hX6, Nat.le_refl _, HI6, HL6, HL0⟩
          case round =>
            obtain ⟨q, hq, rfl, hE7, hs7, HI, HS, HO⟩ := hrel
            by_cases hlq : q < m
            · obtain ⟨b4, o4, e4, hb4, hc4⟩ := HI.out q (by rw [Hlc.out]; exact hlq)
              simp only [Option.some.injEq, Addr.mk.injEq, and_true] at e4
              obtain ⟨rfl, rfl⟩ := e4
              rw [← gi_at, Hlg.out q hlq, Nat.zero_add] at hc4
              obtain ⟨w7, rfl⟩ : ∃ w7 : World, w7 = wr := ⟨_, rfl⟩
              obtain ⟨z, hz⟩ : ∃ z, gi y q * 1000 - cs T1 q = z := ⟨_, rfl⟩
              have Hz : Hid (lc y T1 q = z) := Lib.hid hz
              rw [hz] at hc4
              clear hz
              go_wp2_with fail
              go_loopw [19, 83] (fun _ i wr => ∃ p : Nat, p ≤ t.length ∧ i = .int .i64 p ∧ Ext w wr ∧ w6.heap.size ≤ wr.heap.size ∧ Hid (Ints wr (some ⟨B5, 0, none⟩) (lackC y T1 m)) ∧ Hid (OwnL 31 wr w5.heap.size w6.heap.size (.slice (some ⟨g6, 0, none⟩) t.length cap6) A6 C6 G6 O6 (fitC t.length m T1 y)) ∧ Hid (OwnL 31 wr w.heap.size w3.heap.size (.slice (some ⟨g, 0, none⟩) t.length cap) A C G O (cutCTo t.length m T1 y q p))) (fun _ i _ => t.length - (intOf i).toNat)
              case atStart => exact ⟨0, Nat.zero_le _, rfl, hE7, hs7, HI, HS, HO⟩
              case round =>
                obtain ⟨p, hp, rfl, hE8, hs8, HI8, HS8, HO8⟩ := hrel
                by_cases hlp : p < t.length
                · by_cases hneg : z < 0
                  · have hd : decide (z < 0) = true := by simpa using hneg
                    have Hset := Lib.hid (Hks.out q p hlp hlq (by rw [Hz.out]; exact hneg))
                    obtain ⟨t1, t2, t3, t4⟩ := HO8.out.spot (Hkl.out q p) rfl hlp (Hkc.out q p p hlp) (by omega)
                    obtain ⟨r1, r2, r3, r4⟩ := HS8.out.spot Hl6.out rfl hlp (Hc6.out p hlp) (by omega)
                    have r5 := (r4 q hlq).1
                    generalize tg (fitC t.length m T1 y) p q = val at *
                    have z1 : g < wr.heap.size := by omega
                    have z2 : g6 < wr.heap.size := by omega
                    have z3 : G6 p < wr.heap.size := by omega
                    have z4 : G p < wr.heap.size := by omega
                    clear t4 r4 hneg
                    go_wp2_with fail
                    refine wp_region_ext_tail 13 (by kernel_rfl) (by kernel_rfl) ?_
                    simp only [List.take_succ_cons, List.take_zero, List.drop_succ_cons, List.drop_zero]
                    repeat (go_big_quiet_step (fail))
                    refine wpQuiet_nil ?_
                    intro w9 hX9
                    have HO9 := Lib.hid (HO8.out.ext hX9)
                    have hst := HO9.out.store (i := p) (j := q) (by rw [Hkl.out]; exact hlp) (by rw [Hkc.out q p p hlp]; exact hlq) val
                    rw [Hset.out] at hst
                    obtain ⟨_, _, _, u4⟩ := HO9.out.spot (Hkl.out q p) rfl hlp (Hkc.out q p p hlp) (by omega)
                    have u5 := (u4 q hlq).1
                    have u6 := (u4 q hlq).2
                    have Hst := Lib.hid hst
                    have HS9 := Lib.hid ((HS8.out.ext hX9).setLow (g := G p) (i := O p + q) (u := .int .i64 val) (by omega))
                    have HI9 := Lib.hid (ints_setOther (g := G p) (i := O p + q) (u := .int .i64 val) (HI8.out.ext hX9) (fun b o s e => by injection e with e; injection e with e; omega))
                    have hE9 := hE8.trans' hX9
                    have hs9 := hX9.size
                    clear hst u4 t1 r1 r5
                    go_wp2_with fail
                    go_roundw
                    case rel => exact ⟨p + 1, by omega, by go_num, hE9.setCell (show w.heap.size ≤ G p by omega) _, by simp; omega, HI9, HS9, Hst⟩
                    case measure => simp [intOf]; omega
                  · have hd : decide (z < 0) = false := by simp; omega
                    have HO9 := HO8
                    rw [← Hkk.out q p (by rw [Hz.out]; omega)] at HO9
                    clear hneg
                    go_wp2_with fail
                    go_roundw
                    case rel => exact ⟨p + 1, by omega, by go_num, hE8, hs8, HI8, HS8, HO9⟩
                    case measure => simp [intOf]; omega
                · obtain rfl : p = t.length := by omega
                  rw [Hkn.out q] at HO8
                  go_wp2_with fail
                  go_roundw
                  case rel => exact ⟨q + 1, by omega, by go_num, hE8, hs8, HI8, HS8, HO8⟩
                  case measure => simp [intOf]; omega
            · obtain rfl : q = m := by omega
              rw [Hka.out] at HO
              clear HI HS HI6 HL6 HL0 HL Hl6 Hc6 Hlc Hlg Hkl Hkc Hks Hkk Hkn Hka HK1
              obtain ⟨w7, rfl⟩ : ∃ w7 : World, w7 = wr := ⟨_, rfl⟩
              generalize cutC t.length q T1 y = T2 at *
              obtain ⟨a4, c4, e4, hT4⟩ := (show OwnT 31 w7 w.heap.size w3.heap.size _ T2 from ⟨A, C, G, O, HO.out⟩).table
              injection e4 with e4 e6 e5
              clear e6
              subst e4
              subst e5
              have HT4 := Lib.hid hT4
              clear hT4
              go_wp2_with fail
              refine (M3.out _ _ _ HT4.out hE7).mono ?_
              rintro e w8 ⟨u8, v8, B8, rfl, hu8, rfl, hv8, hne8, _, hE8⟩
              rw [lackR_len] at hu8
              rw [lackC_len] at hv8 ⊢
              obtain ⟨gr, cr, rfl, hgr, hgr2⟩ := ownsRow_form hu8 (by omega)
              have hne : B8 ≠ gr := by simpa [Value.ownBlock] using hne8
              have hB8 : w7.heap.size ≤ B8 := by
                obtain ⟨g5, cp5, e, hg5, _⟩ := ownsRow_form hv8 (by omega)
                injection e with e _ _
                injection e with e
                injection e with e
                omega
              have hX8 := hE7.trans' hE8
              have hF : Fill w8 w.heap.size w3.heap.size t.length q g cap gr cr B8 q A C G O x y T2 :=
                ⟨HO.out.ext hE8, row_base hu8 (by omega), row_base hv8 (by omega), fun e => hne e.symm, by omega, by omega, Hfo.out⟩
              have HF := Lib.hid hF
              have HSt := Lib.hid (Stair.start : Stair t.length q x y T2 0 0 T2)
              have Hstp := Lib.hid (fun i j T (h : Stair t.length q x y T2 i j T) (hi : i < t.length) (hj : j < q) => h.step Hfo.out Hxb.out hi hj)
              have Hdone := Lib.hid (fun i j T (h : Stair t.length q x y T2 i j T) (he : i = t.length ∨ j = q) => h.done Hfo.out Hxb.out he)
              clear hF hu8 hv8 hne8 HT4 HO M3
              go_wp2_with fail
              go_loopw [20, 21, 22] (fun i j _ wr => ∃ (p r : Nat) (T : Tbl), i = .int .i64 p ∧ j = .int .i64 r ∧ p ≤ t.length ∧ r ≤ q ∧ Ext w wr ∧ Hid (Stair t.length q x y T2 p r T) ∧ Hid (Fill wr w.heap.size w3.heap.size t.length q g cap gr cr B8 q A C G O x y T)) (fun i j _ _ => (t.length - (intOf i).toNat) + (q - (intOf j).toNat))
              case atStart => exact ⟨0, 0, T2, rfl, rfl, by omega, by omega, hX8, HSt, HF⟩
              case round =>
                obtain ⟨p, r, T, rfl, rfl, hp, hr, hE9, HSt9, HF9⟩ := hrel
                by_cases hpr : p < t.length ∧ r < q
                · obtain ⟨hp1, hr1⟩ := hpr
                  have dp : decide ((p : Int) < (t.length : Int)) = true := by simp; omega
                  have dr : decide ((r : Int) < (q : Int)) = true := by simp; omega
                  have Hst := Lib.hid (fun W (h : Fill W w.heap.size w3.heap.size t.length q g cap gr cr B8 q A C G O x y T) (d : Int) (hd : d = min (lr x T p) (lc y T r)) => h.step Hxb.out hp1 hr1 rfl rfl rfl hd)
                  have Hfa := Lib.hid (fun W (h : Fill W w.heap.size w3.heap.size t.length q g cap gr cr B8 q A C G O x y T) => h.facts Hxb.out Hyb.out hp1 hr1)
                  have Hlc := Lib.hid ((stepF_lc (x := x) (y := y) HF9.out.ok.ok hp1 hr1 r).trans (by rw [if_pos rfl]))
                  obtain ⟨hs1, hs2⟩ := Hstp.out p r T HSt9.out hp1 hr1
                  have Hs1 := Lib.hid hs1
                  have Hs2 := Lib.hid hs2
                  obtain ⟨f1, f2, f3, f4, f5, f6, f7, f8, f9, f10, f11, f12, f13, f14, f15⟩ := Hfa.out _ HF9.out
                  generalize tg T p r = vp at *
                  generalize lr x T p = vq at *
                  generalize lc y T r = vr at *
                  clear f1 f2 f3 f5 f7 hs1 hs2
                  go_wp2_with fail
                  refine wp_region_ext (by kernel_rfl) (by kernel_rfl) ?_
                  repeat (go_big_quiet_step (fail))
                  refine wpQuiet_nil ?_
                  intro wz hXz
                  have hEz := hE9.trans' hXz
                  have HFz := Lib.hid (HF9.out.ext hXz)
                  clear f4 f6 f8 f9 f10 f11 f12 f13 f14 f15
                  obtain ⟨f1, f2, f3, f4, f5, f6, f7, f8, f9, f10, f11, f12, f13, f14, f15⟩ := Hfa.out _ HFz.out
                  obtain ⟨d, hd⟩ : ∃ d, d = min vq vr := ⟨_, rfl⟩
                  have hd1 : 0 ≤ d ∧ d ≤ 30000 ∧ d ≤ vr := by omega
                  have HX := Lib.hid (Hst.out wz HFz.out d hd)
                  rw [← hd] at Hlc ⊢
                  clear hd
                  have ne1 : G p ≠ gr := by omega
                  have ne2 : G p ≠ B8 := by omega
                  have ne3 : gr ≠ B8 := fun e => hne e.symm
                  have le1 : w.heap.size ≤ G p := by omega
                  have le2 : w.heap.size ≤ gr := by omega
                  have le3 : w.heap.size ≤ B8 := by omega
                  by_cases hz : vr - d = 0
                  · have dz : (vr - d == 0) = true := by simp [hz]
                    have HS3 := Lib.hid (Hs1.out (by rw [Hlc.out]; exact hz))
                    clear hz
                    go_wp2_with fail
                    go_roundw
                    case rel => exact ⟨p, r + 1, stepF x y T p r, rfl, by go_num, hp, by omega, ((hEz.setCell le1 _).setCell le2 _).setCell le3 _, HS3, HX⟩
                    case measure => simp [intOf]; omega
                  · have dz : (vr - d == 0) = false := by simp [hz]
                    have HS3 := Lib.hid (Hs2.out (by rw [Hlc.out]; exact hz))
                    clear hz
                    go_wp2_with fail
                    go_roundw
                    case rel => exact ⟨p + 1, r, stepF x y T p r, by go_num, rfl, by omega, hr, ((hEz.setCell le1 _).setCell le2 _).setCell le3 _, HS3, HX⟩
                    case measure => simp [intOf]; omega
                · have hend := Hdone.out p r T HSt9.out (by omega)
                  have Hf := Lib.hid (show RetT 31 (repV t.length q x y t) w (.returned (.slice (some ⟨g, 0, none⟩) t.length cap)) wr from ⟨_, rfl, by rw [Hrep.out, ← hend]; exact ⟨A, C, G, O, HF9.out.tab.up HF9.out.tab.upto (Nat.le_refl _)⟩, hE9⟩)
                  clear hend
                  by_cases hp1 : p < t.length
                  · have hr1 : ¬ (r : Int) < (q : Int) := by omega
                    have dp : decide ((p : Int) < (t.length : Int)) = true := by simp; omega
                    have dr : decide ((r : Int) < (q : Int)) = false := by simp; omega
                    clear hpr
                    go_wp2_with fail
                    go_ret
                    exact Hf.out
                  · have dp : decide ((p : Int) < (t.length : Int)) = false := by simp; omega
                    clear hpr
                    go_wp2_with fail
                    go_ret
                    exact Hf.out

end Go.Proofs.Ytaidoaggmllcfaa
