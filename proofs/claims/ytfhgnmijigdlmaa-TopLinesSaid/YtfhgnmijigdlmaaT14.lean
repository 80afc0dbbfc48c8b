/- Contracts of the line: heights and areas. -/
import Derived.Test.YtfhgnmijigdlmaaT13
namespace Go.Proofs.Ytfhgnmijigdlmaa
open Go.RowKit
attribute [local go_sem] GW.cell
theorem any_yes {h : List Int} {k : Nat} (hk : k < h.length) (hw : withinB (gi h k) (-10000) 10000 = false) : h.any (fun n => !withinB n (-10000) 10000) = true := by
  rw [List.any_eq_true]; exact ⟨_, gi_mem hk, by rw [hw]; rfl⟩
theorem any_no {h : List Int} (hw : ∀ k, k < h.length → withinB (gi h k) (-10000) 10000 = true) : h.any (fun n => !withinB n (-10000) 10000) = false := by
  rw [List.any_eq_false]
  intro x hx
  obtain ⟨j, hj, rfl⟩ := List.getElem_of_mem hx
  have := hw j hj
  rw [gi_at, List.getElem?_eq_getElem hj, Option.getD_some] at this
  rw [this]; simp
theorem priceV_one (x y : Int) : priceV x y 1 = distI x y := by unfold priceV; rw [if_neg (by omega)]
set_option maxRecDepth 20000 in
set_option maxHeartbeats 8000000 in
theorem f24_c (a1 a2 a3 : Option Addr) (n c n2 c2 n3 c3 : Nat) (a b : List Atom) (h : List Int) (w : World) (hl : Atoms w a1 a) (hn : a.length = n) (hlen : n ≤ 1000000) (hm : Atoms w a2 b) (hn2 : b.length = n2) (hlen2 : n2 ≤ 1000000) (hh : Ints w a3 h) (hn3 : h.length = n3) (hlen3 : n3 ≤ 1000000) :
    Calls Try.prog 24 #[.slice a1 n c, .slice a2 n2 c2, .slice a3 n3 c3] w fun e w' => e = .returned (.tuple #[.int .i64 (hgtV a b h), .int .i64 (hgtErr a b h)]) ∧ Ext w w' := by
  have C1 := f74_c a1 a2 n c n2 c2 a b w hl hn (by omega) hm hn2 (by omega)
  by_cases hp : linePair a b = 0
  case neg =>
    have hb : (linePair a b != 0) = true := by simp [hp]
    have e1 : hgtErr a b h = linePair a b := by unfold hgtErr; rw [if_pos hp]
    have e2 : hgtV a b h = 0 := by unfold hgtV; rw [e1, if_neg hp]
    rw [e1, e2]
    have C1 := Lib.hid C1
    clear hp e1 e2 hn hn2 hn3
    generalize linePair a b = E at *
    go_enter Try.func24, Try.ntmps24
    go_wp2_with fail
    refine C1.out.mono ?_
    rintro e w1 ⟨rfl, hE1⟩
    go_wp2_with fail
    go_ret2
    exact ⟨rfl, hE1⟩
  obtain ⟨v1, v2, -⟩ := linePair_ok hp
  have h6a := (listErr_ok v1).1
  have h6b := (listErr_ok v2).1
  have hLl := places_len v1 v2
  have C2 := Lib.hid (fun W (hx : Ext w W) => f70_c a1 a2 n c n2 c2 a b W (hl.ext hx) hn hlen (hm.ext hx) hn2 hlen2)
  have C3 := Lib.hid (fun p W (hx : Ext w W) => f77_c a1 n c a p W (hl.ext hx) hn hlen)
  have C4 := Lib.hid (fun p W (hx : Ext w W) => f77_c a2 n2 c2 b p W (hm.ext hx) hn2 hlen2)
  have e0 : hgtErr a b h = if shapeB (placesL2 a b) h then (if gentleB (placesL2 a b) h then 0 else 7) else 1 := by unfold hgtErr; rw [if_neg (by simpa using hp)]
  have F1 : shapeB (placesL2 a b) h = false → hgtErr a b h = 1 ∧ hgtV a b h = 0 := fun hs => by
    have e1 : hgtErr a b h = 1 := by rw [e0, hs]; rfl
    exact ⟨e1, by unfold hgtV; rw [e1, if_neg (by omega)]⟩
  have F2 : shapeB (placesL2 a b) h = true → gentleB (placesL2 a b) h = false → hgtErr a b h = 7 ∧ hgtV a b h = 0 := fun hs hg => by
    have e1 : hgtErr a b h = 7 := by rw [e0, hs, hg]; rfl
    exact ⟨e1, by unfold hgtV; rw [e1, if_neg (by omega)]⟩
  have F3 : shapeB (placesL2 a b) h = true → gentleB (placesL2 a b) h = true → hgtErr a b h = 0 ∧ hgtV a b h = worthTo a b (placesL2 a b) h (placesL2 a b).length := fun hs hg => by
    have e1 : hgtErr a b h = 0 := by rw [e0, hs, hg]; rfl
    exact ⟨e1, by unfold hgtV; rw [e1, if_pos rfl]⟩
  have F1 := Lib.hid F1
  have F2 := Lib.hid F2
  have F3 := Lib.hid F3
  rw [hp] at C1
  have C1 := Lib.hid C1
  have Hma := Lib.hid (fun p => massAt_bd (fine_load v1) p)
  have Hmb := Lib.hid (fun p => massAt_bd (fine_load v2) p)
  have HT := Lib.hid (fun (x p : Int) (hx : -10000 ≤ x ∧ x ≤ 10000) => worth_term v1 v2 hx p)
  have HW := Lib.hid (fun (L : List Int) (hh : ∀ i, i < L.length → -10000 ≤ gi h i ∧ gi h i ≤ 10000) => worthTo_bd v1 v2 hh)
  have HLb := Lib.hid (fun i (hi : i < (placesL2 a b).length) => places_bd hi)
  clear e0 hp
  have hL12 : (placesL2 a b).length ≤ 12 := by omega
  generalize placesL2 a b = L at *
  generalize hgtErr a b h = EE at *
  generalize hgtV a b h = VV at *
  by_cases hs1 : h.length = L.length
  case neg =>
    have d1 : ((n3 : Int) != (L.length : Int)) = true := by simp; omega
    obtain ⟨rfl, rfl⟩ := F1.out (by unfold shapeB; simp [hs1])
    clear hs1 hn hn2 hn3 F1 F2 F3
    go_enter Try.func24, Try.ntmps24
    go_wp2_with fail
    refine C1.out.mono ?_
    rintro e w1 ⟨rfl, hE1⟩
    go_wp2_with fail
    refine (C2.out _ hE1).mono ?_
    rintro e w2 ⟨aL, cL, rfl, hIL, hE2⟩
    go_wp2_with fail
    all_goals
      go_ret2
      exact ⟨rfl, hE1.trans' hE2⟩
  have d1 : ((n3 : Int) != (L.length : Int)) = false := by simp; omega
  subst hn3
  have Hsh := Lib.hid (any_shape hs1)
  have hs3 : h.length ≤ L.length ∧ L.length ≤ h.length := by omega
  have HG : Hid (gentleB L h = true ↔ gentle L h L.length) := Lib.hid (gentleB_iff L h)
  clear hs1 hn hn2
  go_enter Try.func24, Try.ntmps24
  go_wp2_with fail
  refine C1.out.mono ?_
  rintro e w1 ⟨rfl, hE1⟩
  go_wp2_with fail
  refine (C2.out _ hE1).mono ?_
  rintro e w2 ⟨aL, cL, rfl, hIL, hX2⟩
  have hE2 := hE1.trans' hX2
  have HIL := Lib.hid hIL
  clear hIL
  go_wp2_with fail
  go_loop [10] (fun i => ∃ k : Nat, k ≤ h.length ∧ i = .int .i64 k ∧ Hid (∀ j, j < k → withinB (gi h j) (-10000) 10000 = true)) (fun i => h.length - (intOf i).toNat)
  case atStart => exact ⟨0, Nat.zero_le _, rfl, fun j hj => by omega⟩
  case round =>
    obtain ⟨k, hk, rfl, H⟩ := hrel
    by_cases hlt : k < h.length
    · obtain ⟨bh, oh, rfl, hbh, hch⟩ := hh.ext hE2 k hlt
      rw [← gi_at] at hch
      have hkL : k < L.length := by omega
      have C5 := f75_c (gi h k) (-10000) 10000
      cases hw : withinB (gi h k) (-10000) 10000
      · simp only [hw] at C5
        have C5 := Lib.hid C5
        obtain ⟨rfl, rfl⟩ := F1.out (by rw [Hsh.out, any_yes hlt hw]; rfl)
        clear hw F1 F2 F3
        generalize gi h k = x at *
        go_wp2_with fail
        refine (C5.out _).mono ?_
        rintro e w' ⟨rfl, rfl⟩
        go_wp2_with fail
        go_ret2
        exact ⟨rfl, hE2⟩
      · simp only [hw] at C5
        have C5 := Lib.hid C5
        have HN : Hid (∀ j, j < k + 1 → withinB (gi h j) (-10000) 10000 = true) := Lib.hid (fun j hj => by
          rcases Nat.lt_or_ge j k with e | e
          · exact H.out j e
          · obtain rfl : j = k := by omega
            exact hw)
        clear hw
        generalize gi h k = x at *
        go_wp2_with fail
        refine (C5.out _).mono ?_
        rintro e w' ⟨rfl, rfl⟩
        go_wp2_with fail
        go_round
        case rel => exact ⟨k + 1, by omega, by go_num, HN⟩
        case measure => simp [intOf]; omega
    · obtain rfl : k = h.length := by omega
      have hkL : ¬ h.length < L.length := by omega
      have hsh : shapeB L h = true := by rw [Hsh.out, any_no H.out]; rfl
      have hhb := (shapeB_ok hsh).2
      have Hhb := Lib.hid hhb
      have F2 := Lib.hid (F2.out hsh)
      have F3 := Lib.hid (F3.out hsh)
      have HW2 := Lib.hid (HW.out L (fun i hi => hhb i (by omega)))
      clear hsh hhb HW F1 Hsh
      go_wp2_with fail
      go_loopw [11, 12] (fun s i wr => ∃ k : Nat, k ≤ h.length ∧ i = .int .i64 k ∧ s = .int .i64 (worthTo a b L h k) ∧ Ext w2 wr ∧ Hid (gentle L h k)) (fun _ i _ => h.length - (intOf i).toNat)
      case atStart => exact ⟨0, Nat.zero_le _, rfl, rfl, Below.refl _ _, fun i hi => by omega⟩
      case round =>
        obtain ⟨k, hk, rfl, rfl, hX6, HGk⟩ := hrel
        have hE6 := hE2.trans' hX6
        by_cases hlt : k < h.length
        case neg =>
          obtain rfl : k = h.length := by omega
          have hl : h.length = L.length := by omega
          have hg : gentleB L h = true := HG.out.2 (by rw [← hl]; exact HGk.out)
          have F3 := F3.out hg
          rw [← hl] at F3
          obtain ⟨rfl, rfl⟩ := F3
          clear hl hg F2
          go_wp2_with fail
          go_ret2
          exact ⟨rfl, hE6⟩
        have hkL2 : k < L.length := by omega
        obtain ⟨bh, oh, rfl, hbh, hch⟩ := hh.ext hE6 k hlt
        obtain ⟨bl, ol, rfl, hbl, hcl⟩ := HIL.out.ext hX6 k (by omega)
        rw [← gi_at] at hch hcl
        have t1 := HT.out (gi h k) (gi L k) (Hhb.out k hlt)
        have t2 := HW2.out k (by omega)
        have t3 := Hma.out (gi L k)
        have t4 := Hmb.out (gi L k)
        have t5 := HLb.out k (by omega)
        have t6 := Hhb.out k hlt
        have Hws := Lib.hid (worth_succ a b L h k)
        have hk12 : k ≤ 12 := by omega
        cases k with
        | zero =>
          simp only [Nat.add_zero] at hch hcl
          have HGN : gentle L h (0 + 1) := fun i hi => by omega
          obtain ⟨lk, elk⟩ : ∃ lk, gi L 0 = lk := ⟨_, rfl⟩
          obtain ⟨ma, Ema⟩ : ∃ ma, massAt a (gi L 0) = ma := ⟨_, rfl⟩
          obtain ⟨mb, Emb⟩ : ∃ mb, massAt b (gi L 0) = mb := ⟨_, rfl⟩
          rw [Ema, Emb] at t1 Hws
          rw [Ema] at t3
          rw [Emb] at t4
          rw [elk] at Ema Emb hcl t5
          have Ema := Lib.hid Ema
          have Emb := Lib.hid Emb
          clear elk
          generalize gi h 0 = hk' at *
          generalize worthTo a b L h 0 = A at *
          clear HW2
          go_wp2_with fail
          refine wp_region_ext (by kernel_rfl) (by kernel_rfl) ?_
          repeat (go_big_quiet_step (fail))
          refine wpQuiet_nil ?_
          intro w7 hE7
          have hcl2 := (hE7.cell' hbl).trans hcl
          have hbl2 := Nat.lt_of_lt_of_le hbl hE7.size
          have hch2 := (hE7.cell' hbh).trans hch
          have hbh2 := Nat.lt_of_lt_of_le hbh hE7.size
          have D1 := Lib.hid (fun W (hx : Ext w7 W) => C3.out lk W ((hE6.trans' hE7).trans' hx))
          have D2 := Lib.hid (fun W (hx : Ext w7 W) => C4.out lk W ((hE6.trans' hE7).trans' hx))
          rw [Ema.out] at D1
          rw [Emb.out] at D2
          have hX7 := hX6.trans' hE7
          go_wp2_with fail
          refine wp_region_ext (by kernel_rfl) (by kernel_rfl) ?_
          repeat (go_big_quiet_step (fail))
          go_big_quiet_step ((go_at_call 77; exact quiet_same (D2.out _ (GW.ext _))))
          repeat (go_big_quiet_step (fail))
          go_big_quiet_step ((go_at_call 77; exact quiet_same (D1.out _ (GW.ext _))))
          repeat (go_big_quiet_step (fail))
          refine wpQuiet_nil ?_
          intro w8 hE8
          go_wp2_with fail
          go_roundw
          case rel => exact ⟨1, by omega, by go_num, by rw [Hws.out], hX7.trans' hE8, Lib.hid HGN⟩
          case measure => simp [intOf]; omega
        | succ q =>
          obtain ⟨bh', oh', he1, hbh', hch'⟩ := hh.ext hE6 q (by omega)
          obtain ⟨bl', ol', he2, hbl', hcl'⟩ := HIL.out.ext hX6 q (by omega)
          simp only [Option.some.injEq, Addr.mk.injEq] at he1 he2
          obtain ⟨rfl, rfl, -⟩ := he1
          obtain ⟨rfl, rfl, -⟩ := he2
          rw [← gi_at] at hch' hcl'
          have t7 := HLb.out q (by omega)
          have t8 := Hhb.out q (by omega)
          have HD := fun W => f76_c (gi h (q + 1)) (gi h q) 1 W (by omega) (by omega) (.inl rfl)
          rw [priceV_one, distI_symm] at HD
          have hdb : 0 ≤ distI (gi h q) (gi h (q + 1)) ∧ distI (gi h q) (gi h (q + 1)) ≤ 20000 := by unfold distI; split <;> omega
          have HD := Lib.hid HD
          by_cases hg : distI (gi h q) (gi h (q + 1)) ≤ gi L (q + 1) - gi L q
          case neg =>
            obtain ⟨rfl, rfl⟩ := F2.out (gentleB_no (L := L) (h := h) (k := q) (by omega) (by omega))
            clear F3 Hws HW2
            have d3 : decide (gi L (q + 1) - gi L q < distI (gi h q) (gi h (q + 1))) = true := by simp; omega
            clear hg
            generalize distI (gi h q) (gi h (q + 1)) = DD at *
            generalize gi L (q + 1) = lk at *
            generalize gi h (q + 1) = hk' at *
            generalize gi L q = lq at *
            generalize gi h q = hq at *
            go_wp2_with fail
            refine wp_region_ext (by kernel_rfl) (by kernel_rfl) ?_
            repeat (go_big_quiet_step ((go_at_call 76; exact quiet_same (HD.out _))))
            refine wpQuiet_nil ?_
            intro w7 hE7
            go_wp2_with fail
            go_ret2
            exact ⟨rfl, hE6.trans' hE7⟩
          have HGN : gentle L h (q + 1 + 1) := fun i hi => by
            by_cases e : i = q
            · subst e; exact hg
            · exact HGk.out i (by omega)
          have d3 : decide (gi L (q + 1) - gi L q < distI (gi h q) (gi h (q + 1))) = false := by simp; omega
          obtain ⟨lk, elk⟩ : ∃ lk, gi L (q + 1) = lk := ⟨_, rfl⟩
          obtain ⟨ma, Ema⟩ : ∃ ma, massAt a (gi L (q + 1)) = ma := ⟨_, rfl⟩
          obtain ⟨mb, Emb⟩ : ∃ mb, massAt b (gi L (q + 1)) = mb := ⟨_, rfl⟩
          rw [Ema, Emb] at t1 Hws
          rw [Ema] at t3
          rw [Emb] at t4
          rw [elk] at Ema Emb hcl t5 d3
          have Ema := Lib.hid Ema
          have Emb := Lib.hid Emb
          clear elk hg
          generalize distI (gi h q) (gi h (q + 1)) = DD at *
          generalize gi h (q + 1) = hk' at *
          generalize gi L q = lq at *
          generalize gi h q = hq at *
          generalize worthTo a b L h (q + 1) = A at *
          clear HW2
          go_wp2_with fail
          refine wp_region_ext (by kernel_rfl) (by kernel_rfl) ?_
          repeat (go_big_quiet_step ((go_at_call 76; exact quiet_same (HD.out _))))
          refine wpQuiet_nil ?_
          intro w7 hE7
          have hcl2 := (hE7.cell' hbl).trans hcl
          have hbl2 := Nat.lt_of_lt_of_le hbl hE7.size
          have hch2 := (hE7.cell' hbh).trans hch
          have hbh2 := Nat.lt_of_lt_of_le hbh hE7.size
          have D1 := Lib.hid (fun W (hx : Ext w7 W) => C3.out lk W ((hE6.trans' hE7).trans' hx))
          have D2 := Lib.hid (fun W (hx : Ext w7 W) => C4.out lk W ((hE6.trans' hE7).trans' hx))
          rw [Ema.out] at D1
          rw [Emb.out] at D2
          have hX7 := hX6.trans' hE7
          go_wp2_with fail
          refine wp_region_ext (by kernel_rfl) (by kernel_rfl) ?_
          repeat (go_big_quiet_step (fail))
          go_big_quiet_step ((go_at_call 77; exact quiet_same (D2.out _ (GW.ext _))))
          repeat (go_big_quiet_step (fail))
          go_big_quiet_step ((go_at_call 77; exact quiet_same (D1.out _ (GW.ext _))))
          repeat (go_big_quiet_step (fail))
          refine wpQuiet_nil ?_
          intro w8 hE8
          go_wp2_with fail
          go_roundw
          case rel => exact ⟨q + 1 + 1, by omega, by go_num, by rw [Hws.out], hX7.trans' hE8, Lib.hid HGN⟩
          case measure => simp [intOf]; omega

theorem areaR_succ (a b : List Atom) (L : List Int) (n : Nat) : areaR a b L (n + 1) = areaR a b L n + distI (gapD a b (gi L n)) 0 * (gi L (n + 1) - gi L n) := rfl
theorem areaV_R (a b : List Atom) (h : linePair a b = 0) : areaV a b = areaR a b (placesL2 a b) ((placesL2 a b).length - 1) := by
  unfold areaV; rw [if_pos h, area_said h, areaR_said h]
theorem bel_bd {l : List Atom} (hv : valLoad l = 0) (t : Int) : 0 ≤ bel l t ∧ bel l t ≤ 180 := by
  rw [bel_cnt hv]
  have := List.countP_le_length (p := fun x => decide (x ≤ t)) (l := unitsL l)
  have := units_small hv
  omega
theorem area_term {a b : List Atom} (ha : valLoad a = 0) (hb : valLoad b = 0) {L : List Int} {i : Nat} (h1 : -1000 ≤ gi L i ∧ gi L i ≤ 1000) (h2 : -1000 ≤ gi L (i + 1) ∧ gi L (i + 1) ≤ 1000) (h3 : gi L i < gi L (i + 1)) :
    0 ≤ distI (gapD a b (gi L i)) 0 * (gi L (i + 1) - gi L i) ∧ distI (gapD a b (gi L i)) 0 * (gi L (i + 1) - gi L i) ≤ 360000 := by
  have b1 := bel_bd ha (gi L i)
  have b2 := bel_bd hb (gi L i)
  have hd : 0 ≤ distI (gapD a b (gi L i)) 0 ∧ distI (gapD a b (gi L i)) 0 ≤ 180 := by unfold gapD distI; split <;> omega
  exact ⟨Int.mul_nonneg hd.1 (by omega), by have := Int.mul_le_mul hd.2 (show gi L (i + 1) - gi L i ≤ 2000 by omega) (by omega) (by omega); omega⟩
theorem areaR_bd {a b : List Atom} (ha : valLoad a = 0) (hb : valLoad b = 0) : ∀ n, n + 1 ≤ (placesL2 a b).length → 0 ≤ areaR a b (placesL2 a b) n ∧ areaR a b (placesL2 a b) n ≤ n * 360000
  | 0, _ => by simp [areaR, sumR]
  | n + 1, hn => by
    have ih := areaR_bd ha hb n (by omega)
    have h1 := area_term ha hb (places_bd (a := a) (b := b) (i := n) (by omega)) (places_bd (i := n + 1) (by omega)) (places_gi (by omega) (by omega))
    rw [areaR_succ]
    omega
set_option maxRecDepth 20000 in
set_option maxHeartbeats 8000000 in
theorem f27_c (a1 a2 : Option Addr) (n c n2 c2 : Nat) (a b : List Atom) (w : World) (hl : Atoms w a1 a) (hn : a.length = n) (hlen : n ≤ 1000000) (hm : Atoms w a2 b) (hn2 : b.length = n2) (hlen2 : n2 ≤ 1000000) :
    Calls Try.prog 27 #[.slice a1 n c, .slice a2 n2 c2] w fun e w' => e = .returned (.tuple #[.int .i64 (areaV a b), .int .i64 (linePair a b)]) ∧ Ext w w' := by
  have C1 := f74_c a1 a2 n c n2 c2 a b w hl hn (by omega) hm hn2 (by omega)
  by_cases hp : linePair a b = 0
  case neg =>
    have hb : (linePair a b != 0) = true := by simp [hp]
    rw [show areaV a b = 0 by unfold areaV; rw [if_neg hp]]
    have C1 := Lib.hid C1
    clear hp hn hn2
    generalize linePair a b = E at *
    go_enter Try.func27, Try.ntmps27
    go_wp2_with fail
    refine C1.out.mono ?_
    rintro e w1 ⟨rfl, hE1⟩
    go_wp2_with fail
    go_ret2
    exact ⟨rfl, hE1⟩
  obtain ⟨v1, v2, -⟩ := linePair_ok hp
  have hLl := places_len v1 v2
  have h6a := (listErr_ok v1).1
  have h6b := (listErr_ok v2).1
  have C2 := Lib.hid (fun W (hx : Ext w W) => f70_c a1 a2 n c n2 c2 a b W (hl.ext hx) hn hlen (hm.ext hx) hn2 hlen2)
  have C3 := Lib.hid (fun p W (hx : Ext w W) => f79_c a1 n c a p W (hl.ext hx) hn v1)
  have C4 := Lib.hid (fun p W (hx : Ext w W) => f79_c a2 n2 c2 b p W (hm.ext hx) hn2 v2)
  rw [areaV_R a b hp]
  rw [hp] at C1 ⊢
  have C1 := Lib.hid C1
  have HB1 := Lib.hid (fun t => bel_bd v1 t)
  have HB2 := Lib.hid (fun t => bel_bd v2 t)
  have HA := Lib.hid (fun q (hq : q + 1 ≤ (placesL2 a b).length) => areaR_bd v1 v2 q hq)
  have HLb := Lib.hid (fun i (hi : i < (placesL2 a b).length) => places_bd hi)
  have HLs := Lib.hid (fun i (hi : i + 1 < (placesL2 a b).length) => places_gi (a := a) (b := b) (show i < i + 1 by omega) hi)
  have HT := Lib.hid (fun i (hi : i + 1 < (placesL2 a b).length) => area_term v1 v2 (places_bd (a := a) (b := b) (i := i) (by omega)) (places_bd hi) (HLs.out i hi))
  have Hs : Hid (∀ q, areaR a b (placesL2 a b) (q + 1) = areaR a b (placesL2 a b) q + distI (bel a (gi (placesL2 a b) q) - bel b (gi (placesL2 a b) q)) 0 * (gi (placesL2 a b) (q + 1) - gi (placesL2 a b) q)) := Lib.hid (fun q => rfl)
  have HT : Hid (∀ i, i + 1 < (placesL2 a b).length → 0 ≤ distI (bel a (gi (placesL2 a b) i) - bel b (gi (placesL2 a b) i)) 0 * (gi (placesL2 a b) (i + 1) - gi (placesL2 a b) i) ∧ distI (bel a (gi (placesL2 a b) i) - bel b (gi (placesL2 a b) i)) 0 * (gi (placesL2 a b) (i + 1) - gi (placesL2 a b) i) ≤ 360000) := HT
  have hL12 : (placesL2 a b).length ≤ 12 := by omega
  have HZ : Hid (areaR a b (placesL2 a b) 0 = 0) := Lib.hid rfl
  generalize areaR a b (placesL2 a b) = AR at *
  generalize placesL2 a b = L at *
  clear hp hn hn2 v1 v2
  obtain ⟨RES, hR⟩ : ∃ R, AR (L.length - 1) = R := ⟨_, rfl⟩
  rw [hR]
  have HR := Lib.hid hR
  clear hR
  go_enter Try.func27, Try.ntmps27
  go_wp2_with fail
  refine C1.out.mono ?_
  rintro e w1 ⟨rfl, hE1⟩
  go_wp2_with fail
  refine (C2.out _ hE1).mono ?_
  rintro e w2 ⟨aL, cL, rfl, hIL, hX2⟩
  have hE2 := hE1.trans' hX2
  have HIL := Lib.hid hIL
  clear hIL
  go_wp2_with fail
  go_loopw [8, 9, 10] (fun s i _ wr => ∃ q : Nat, (q = 0 ∨ q + 1 ≤ L.length) ∧ i = .int .i64 ((q : Int) + 1) ∧ s = .int .i64 (AR q) ∧ Ext w2 wr) (fun _ i _ _ => L.length - (intOf i).toNat)
  case atStart => exact ⟨0, .inl rfl, rfl, by rw [HZ.out], Below.refl _ _⟩
  case round =>
    obtain ⟨q, hq, rfl, rfl, hX6⟩ := hrel
    have hE6 := hE2.trans' hX6
    by_cases hlt : q + 1 < L.length
    · obtain ⟨bl, ol, rfl, hbl, hcl⟩ := HIL.out.ext hX6 q (by omega)
      obtain ⟨bl', ol', he1, hbl', hcl'⟩ := HIL.out.ext hX6 (q + 1) hlt
      simp only [Option.some.injEq, Addr.mk.injEq] at he1
      obtain ⟨rfl, rfl, -⟩ := he1
      rw [← gi_at] at hcl hcl'
      have t1 := HLb.out q (by omega)
      have t2 := HLb.out (q + 1) hlt
      have t3 := HLs.out q hlt
      have t4 := HT.out q hlt
      have t5 := HA.out q (by omega)
      have b1 := HB1.out (gi L q)
      have b2 := HB2.out (gi L q)
      have Hs1 := Lib.hid (Hs.out q)
      have D1 := Lib.hid (fun W (hx : Ext wr W) => C3.out (gi L q) W (hE6.trans' hx))
      have D2 := Lib.hid (fun W (hx : Ext wr W) => C4.out (gi L q) W (hE6.trans' hx))
      have hlt2 : (q : Int) + 1 < (L.length : Int) := by omega
      generalize bel a (gi L q) = A1 at *
      generalize bel b (gi L q) = B1 at *
      have m1 : max (A1 - B1) (-(A1 - B1)) = distI (A1 - B1) 0 := by unfold distI; split <;> omega
      have hdb : 0 ≤ distI (A1 - B1) 0 ∧ distI (A1 - B1) 0 ≤ 180 := by unfold distI; split <;> omega
      generalize gi L q = x at *
      generalize gi L (q + 1) = y at *
      generalize AR q = A0 at *
      have hqn : q < 13 := by omega
      go_wp2_with fail
      refine wp_region_ext (by kernel_rfl) (by kernel_rfl) ?_
      repeat (go_big_quiet_step (fail))
      go_big_quiet_step ((go_at_call 79; exact quiet_ext (D1.out _ (GW.ext _))))
      repeat (go_big_quiet_step (fail))
      go_big_quiet_step ((go_at_call 79; exact quiet_ext (D2.out _ (GW.ext _))))
      repeat (go_big_quiet_step (fail))
      refine wpQuiet_nil ?_
      intro w7 hE7
      have hcl := (hE7.cell' hbl).trans hcl
      have hcl' := (hE7.cell' hbl).trans hcl'
      have hbl := Nat.lt_of_lt_of_le hbl hE7.size
      have hX7 := hX6.trans' hE7
      go_wp2_with fail
      refine wp_region_ext (by kernel_rfl) (by kernel_rfl) ?_
      repeat (go_big_quiet_step (fail))
      refine wpQuiet_nil ?_
      intro w8 hE8
      go_wp2_with fail
      go_roundw
      case rel => exact ⟨q + 1, .inr (by omega), by congr 1 <;> omega, by rw [Hs1.out], hX7.trans' hE8⟩
      case measure => simp [intOf]; omega
    · have hlt2 : ¬ ((q : Int) + 1 < (L.length : Int)) := by omega
      have Hq : Hid (AR q = RES) := Lib.hid (by rw [← HR.out]; congr 1; omega)
      go_wp2_with fail
      go_ret2
      exact ⟨ret_ii Hq.out rfl, hE6⟩

end Go.Proofs.Ytfhgnmijigdlmaa
