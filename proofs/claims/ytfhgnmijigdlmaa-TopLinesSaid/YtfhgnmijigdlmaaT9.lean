/- Contracts of the line: CheckHeights. -/
import Derived.Test.YtfhgnmijigdlmaaT8
namespace Go.Proofs.Ytfhgnmijigdlmaa
open Go.RowKit
attribute [local go_sem] GW.cell
theorem any_shape {L h : List Int} (hl : h.length = L.length) : shapeB L h = !h.any (fun n => !withinB n (-10000) 10000) := by unfold shapeB; simp [hl]

set_option maxRecDepth 20000 in
set_option maxHeartbeats 8000000 in
theorem f23_c (a1 a2 a3 : Option Addr) (n c n2 c2 n3 c3 : Nat) (a b : List Atom) (h : List Int) (w : World) (hl : Atoms w a1 a) (hn : a.length = n) (hlen : n ≤ 140737488355328) (hm : Atoms w a2 b) (hn2 : b.length = n2) (hlen2 : n2 ≤ 140737488355328) (hh : Ints w a3 h) (hn3 : h.length = n3) (hlen3 : n3 ≤ 1000000) :
    Calls Try.prog 23 #[.slice a1 n c, .slice a2 n2 c2, .slice a3 n3 c3] w fun e w' => e = .returned (.tuple #[.int .i64 (hgtV a b h), .int .i64 (hgtErr a b h)]) ∧ Ext w w' := by
  have C1 := f65_c a1 a2 n c n2 c2 a b w hl hn hlen hm hn2 hlen2
  by_cases hp : linePair a b = 0
  case neg =>
    have hb : (linePair a b != 0) = true := by simp [hp]
    have e1 : hgtErr a b h = linePair a b := by unfold hgtErr; rw [if_pos hp]
    have e2 : hgtV a b h = 0 := by unfold hgtV; rw [e1, if_neg hp]
    rw [e1, e2]
    have C1 := Lib.hid C1
    clear hp e1 e2 hn hn2 hn3
    generalize linePair a b = E at *
    go_enter Try.func23, Try.ntmps23
    go_wp2_with fail
    refine C1.out.mono ?_
    rintro e w1 ⟨rfl, hE1⟩
    go_wp2_with fail
    go_ret2
    exact ⟨rfl, hE1⟩
  obtain ⟨v1, v2, -⟩ := linePair_ok hp
  have h6a := (listErr_ok v1).1
  have h6b := (listErr_ok v2).1
  have hLl := places_len v1 v2
  have C2 := Lib.hid (fun W (hx : Ext w W) => f68_c a1 a2 n c n2 c2 a b W (hl.ext hx) hn (hm.ext hx) hn2 v1 v2)
  have C3 := Lib.hid (fun W (hx : Ext w W) => f73_c a1 n c a W (hl.ext hx) hn v1)
  have C4 := Lib.hid (fun W (hx : Ext w W) => f73_c a2 n2 c2 b W (hm.ext hx) hn2 v2)
  have e0 : hgtErr a b h = if shapeB (placesL2 a b) h then (if gentleB (placesL2 a b) h then 0 else 7) else 1 := by unfold hgtErr; rw [if_neg (by simpa using hp)]
  have F1 : shapeB (placesL2 a b) h = false → hgtErr a b h = 1 ∧ hgtV a b h = 0 := fun hs => by
    have e1 : hgtErr a b h = 1 := by rw [e0, hs]; rfl
    exact ⟨e1, by unfold hgtV; rw [e1, if_neg (by omega)]⟩
  have F2 : shapeB (placesL2 a b) h = true → gentleB (placesL2 a b) h = false → hgtErr a b h = 7 ∧ hgtV a b h = 0 := fun hs hg => by
    have e1 : hgtErr a b h = 7 := by rw [e0, hs, hg]; rfl
    exact ⟨e1, by unfold hgtV; rw [e1, if_neg (by omega)]⟩
  have F3 : shapeB (placesL2 a b) h = true → gentleB (placesL2 a b) h = true → hgtErr a b h = 0 ∧ hgtV a b h = worthTo a b (placesL2 a b) h (placesL2 a b).length := fun hs hg => by
    have e1 : hgtErr a b h = 0 := by rw [e0, hs, hg]; rfl
    exact ⟨e1, by unfold hgtV; rw [e1, if_pos rfl]⟩
  have F1 := Lib.hid F1
  have F2 := Lib.hid F2
  have F3 := Lib.hid F3
  rw [hp] at C1
  have C1 := Lib.hid C1
  have Hma := Lib.hid (fun p => massAt_bd (fine_load v1) p)
  have Hmb := Lib.hid (fun p => massAt_bd (fine_load v2) p)
  have HT := Lib.hid (fun (x p : Int) (hx : -10000 ≤ x ∧ x ≤ 10000) => worth_term v1 v2 hx p)
  have HW := Lib.hid (fun (L : List Int) (hh : ∀ i, i < L.length → -10000 ≤ gi h i ∧ gi h i ≤ 10000) => worthTo_bd v1 v2 hh)
  have HLb := Lib.hid (fun i (hi : i < (placesL2 a b).length) => places_bd hi)
  clear e0 hp
  have hL12 : (placesL2 a b).length ≤ 12 := by omega
  generalize placesL2 a b = L at *
  generalize hgtErr a b h = EE at *
  generalize hgtV a b h = VV at *
  by_cases hs1 : h.length = L.length
  case neg =>
    have d1 : ((n3 : Int) != (L.length : Int)) = true := by simp; omega
    obtain ⟨rfl, rfl⟩ := F1.out (by unfold shapeB; simp [hs1])
    clear hs1 hn hn2 hn3 F1 F2 F3
    go_enter Try.func23, Try.ntmps23
    go_wp2_with fail
    refine C1.out.mono ?_
    rintro e w1 ⟨rfl, hE1⟩
    go_wp2_with fail
    refine (C2.out _ hE1).mono ?_
    rintro e w2 ⟨aL, cL, rfl, hIL, hE2⟩
    go_wp2_with fail
    all_goals
      go_ret2
      exact ⟨rfl, hE1.trans' hE2⟩
  have d1 : ((n3 : Int) != (L.length : Int)) = false := by simp; omega
  subst hn3
  have C5 := Lib.hid (fun W (hE : Ext w W) => f71_72 a3 c3 h W (hh.ext hE) (by omega))
  cases hs2 : h.any (fun n => !withinB n (-10000) 10000)
  case true =>
    rw [hs2] at C5
    obtain ⟨rfl, rfl⟩ := F1.out (by rw [any_shape hs1, hs2]; rfl)
    clear hs1 hs2 hn hn2 F1 F2 F3
    go_enter Try.func23, Try.ntmps23
    go_wp2_with fail
    refine C1.out.mono ?_
    rintro e w1 ⟨rfl, hE1⟩
    go_wp2_with fail
    refine (C2.out _ hE1).mono ?_
    rintro e w2 ⟨aL, cL, rfl, hIL, hE2⟩
    go_wp2_with fail
    refine (C5.out _ (hE1.trans' hE2)).mono ?_
    rintro e w3 ⟨rfl, rfl⟩
    go_wp2_with fail
    go_ret2
    exact ⟨rfl, hE1.trans' hE2⟩
  rw [hs2] at C5
  have hsh : shapeB L h = true := by rw [any_shape hs1, hs2]; rfl
  obtain ⟨-, hhb⟩ := shapeB_ok hsh
  have F2 := Lib.hid (F2.out hsh)
  have F3 := Lib.hid (F3.out hsh)
  have Hhb := Lib.hid hhb
  have HW2 := Lib.hid (HW.out L (fun i hi => hhb i (by omega)))
  have hs3 : h.length ≤ L.length ∧ L.length ≤ h.length := by omega
  clear hs1 hs2 hsh hhb hn hn2 HW
  have HG : Hid (gentleB L h = true ↔ gentle L h L.length) := Lib.hid (gentleB_iff L h)
  go_enter Try.func23, Try.ntmps23
  go_wp2_with fail
  refine C1.out.mono ?_
  rintro e w1 ⟨rfl, hE1⟩
  go_wp2_with fail
  refine (C2.out _ hE1).mono ?_
  rintro e w2 ⟨aL, cL, rfl, hIL, hX2⟩
  have hE2 := hE1.trans' hX2
  go_wp2_with fail
  refine (C5.out _ hE2).mono ?_
  rintro e w3 ⟨rfl, rfl⟩
  go_wp2_with fail
  refine (C3.out _ hE2).mono ?_
  rintro e w4 ⟨B1, rfl, hM1, hB1, hX4⟩
  have hE4 := hE2.trans' hX4
  go_wp2_with fail
  refine (C4.out _ hE4).mono ?_
  rintro e w5 ⟨B2, rfl, hM2, hB2, hX5⟩
  have hE5 := hE4.trans' hX5
  have HM1 := Lib.hid (hM1.ext hX5)
  have HM2 := Lib.hid hM2
  have HIL := Lib.hid (hIL.ext (hX4.trans' hX5))
  clear hM1 hM2 hIL
  go_wp2_with fail
  go_loopw [12, 13, 14, 39] (fun s _ _ i wr => ∃ k : Nat, k ≤ h.length ∧ i = .int .i64 k ∧ s = .int .i64 (worthTo a b L h k) ∧ Ext w5 wr ∧ Hid (gentle L h k)) (fun _ _ _ i _ => h.length - (intOf i).toNat)
  case atStart => exact ⟨0, Nat.zero_le _, rfl, rfl, Below.refl _ _, fun i hi => by omega⟩
  case round =>
    obtain ⟨k, hk, rfl, rfl, hX6, HGk⟩ := hrel
    have hE6 := hE5.trans' hX6
    by_cases hlt : k < h.length
    case neg =>
      obtain rfl : k = h.length := by omega
      have hl : h.length = L.length := by omega
      have hg : gentleB L h = true := HG.out.2 (by rw [← hl]; exact HGk.out)
      have F3 := F3.out hg
      rw [← hl] at F3
      obtain ⟨rfl, rfl⟩ := F3
      clear hl hg F2
      go_wp2_with fail
      go_ret2
      exact ⟨rfl, hE6⟩
    obtain ⟨bh, oh, rfl, hbh, hch⟩ := hh.ext hE6 k hlt
    obtain ⟨bl, ol, rfl, hbl, hcl⟩ := HIL.out.ext hX6 k (by omega)
    rw [← gi_at] at hch hcl
    have t1 := HT.out (gi h k) (gi L k) (Hhb.out k hlt)
    have t2 := HW2.out k (by omega)
    have t3 := Hma.out (gi L k)
    have t4 := Hmb.out (gi L k)
    have t5 := HLb.out k (by omega)
    have t6 := Hhb.out k hlt
    have Hws := Lib.hid (worth_succ a b L h k)
    have hk12 : k ≤ 12 := by omega
    cases k with
    | zero =>
      simp only [Nat.add_zero] at hch hcl
      have HGN : gentle L h (0 + 1) := fun i hi => by omega
      obtain ⟨lk, elk⟩ : ∃ lk, gi L 0 = lk := ⟨_, rfl⟩
      obtain ⟨ma, Ema⟩ : ∃ ma, massAt a (gi L 0) = ma := ⟨_, rfl⟩
      obtain ⟨mb, Emb⟩ : ∃ mb, massAt b (gi L 0) = mb := ⟨_, rfl⟩
      rw [Ema, Emb] at t1 Hws
      rw [Ema] at t3
      rw [Emb] at t4
      rw [elk] at Ema Emb hcl t5
      have Ema := Lib.hid Ema
      have Emb := Lib.hid Emb
      clear elk
      generalize gi h 0 = hk' at *
      generalize worthTo a b L h 0 = A at *
      clear HW2
      go_wp2_with fail
      refine wp_region_ext (by kernel_rfl) (by kernel_rfl) ?_
      repeat (go_big_quiet_step (fail))
      refine wpQuiet_nil ?_
      intro w7 hE7
      have L1 := fun (x : GW w7) => (HM1.out.ext ((hX6.trans' hE7).trans' x.ext)).look Try.underlying86 (x := lk) (by omega)
      have L2 := fun (x : GW w7) => (HM2.out.ext ((hX6.trans' hE7).trans' x.ext)).look Try.underlying86 (x := lk) (by omega)
      rw [Ema.out] at L1
      rw [Emb.out] at L2
      have hcl2 := (hE7.cell' hbl).trans hcl
      have hbl2 := Nat.lt_of_lt_of_le hbl hE7.size
      have hE7 := hX6.trans' hE7
      go_wp2_with fail
      refine wp_region_ext (by kernel_rfl) (by kernel_rfl) ?_
      repeat (go_big_quiet_step (fail))
      refine wpQuiet_nil ?_
      intro w8 hE8
      go_wp2_with fail
      go_roundw
      case rel => exact ⟨1, by omega, by go_num, by rw [Hws.out], hE7.trans' hE8, Lib.hid HGN⟩
      case measure => simp [intOf]; omega
    | succ q =>
      obtain ⟨bh', oh', he1, hbh', hch'⟩ := hh.ext hE6 q (by omega)
      obtain ⟨bl', ol', he2, hbl', hcl'⟩ := HIL.out.ext hX6 q (by omega)
      simp only [Option.some.injEq, Addr.mk.injEq] at he1 he2
      obtain ⟨rfl, rfl, -⟩ := he1
      obtain ⟨rfl, rfl, -⟩ := he2
      rw [← gi_at] at hch' hcl'
      have t7 := HLb.out q (by omega)
      have t8 := Hhb.out q (by omega)
      by_cases hg : distI (gi h q) (gi h (q + 1)) ≤ gi L (q + 1) - gi L q
      case neg =>
        obtain ⟨rfl, rfl⟩ := F2.out (gentleB_no (L := L) (h := h) (k := q) (by omega) (by omega))
        clear F3 Hws HW2
        have m1 : max (gi h (q + 1) - gi h q) (gi h q - gi h (q + 1)) = distI (gi h q) (gi h (q + 1)) := by unfold distI; split <;> omega
        have d3 : decide (gi L (q + 1) - gi L q < max (gi h (q + 1) - gi h q) (gi h q - gi h (q + 1))) = true := by rw [m1]; simp; omega
        clear m1 hg
        generalize gi L (q + 1) = lk at *
        generalize gi h (q + 1) = hk' at *
        generalize gi L q = lq at *
        generalize gi h q = hq at *
        go_wp2_with fail
        refine wp_region_ext (by kernel_rfl) (by kernel_rfl) ?_
        repeat (go_big_quiet_step (fail))
        refine wpQuiet_nil ?_
        intro w7 hE7
        go_wp2_with fail
        go_ret2
        exact ⟨rfl, hE6.trans' hE7⟩
      have HGN : gentle L h (q + 1 + 1) := fun i hi => by
        by_cases e : i = q
        · subst e; exact hg
        · exact HGk.out i (by omega)
      have m1 : max (gi h (q + 1) - gi h q) (gi h q - gi h (q + 1)) = distI (gi h q) (gi h (q + 1)) := by unfold distI; split <;> omega
      have d3 : decide (gi L (q + 1) - gi L q < max (gi h (q + 1) - gi h q) (gi h q - gi h (q + 1))) = false := by rw [m1]; simp; omega
      obtain ⟨lk, elk⟩ : ∃ lk, gi L (q + 1) = lk := ⟨_, rfl⟩
      obtain ⟨ma, Ema⟩ : ∃ ma, massAt a (gi L (q + 1)) = ma := ⟨_, rfl⟩
      obtain ⟨mb, Emb⟩ : ∃ mb, massAt b (gi L (q + 1)) = mb := ⟨_, rfl⟩
      rw [Ema, Emb] at t1 Hws
      rw [Ema] at t3
      rw [Emb] at t4
      rw [elk] at Ema Emb hcl t5 d3
      have Ema := Lib.hid Ema
      have Emb := Lib.hid Emb
      clear elk m1 hg
      generalize gi h (q + 1) = hk' at *
      generalize gi L q = lq at *
      generalize gi h q = hq at *
      generalize worthTo a b L h (q + 1) = A at *
      clear HW2
      go_wp2_with fail
      refine wp_region_ext (by kernel_rfl) (by kernel_rfl) ?_
      repeat (go_big_quiet_step (fail))
      refine wpQuiet_nil ?_
      intro w7 hE7
      have L1 := fun (x : GW w7) => (HM1.out.ext ((hX6.trans' hE7).trans' x.ext)).look Try.underlying86 (x := lk) (by omega)
      have L2 := fun (x : GW w7) => (HM2.out.ext ((hX6.trans' hE7).trans' x.ext)).look Try.underlying86 (x := lk) (by omega)
      rw [Ema.out] at L1
      rw [Emb.out] at L2
      have hcl2 := (hE7.cell' hbl).trans hcl
      have hbl2 := Nat.lt_of_lt_of_le hbl hE7.size
      have hE7 := hX6.trans' hE7
      go_wp2_with fail
      refine wp_region_ext (by kernel_rfl) (by kernel_rfl) ?_
      repeat (go_big_quiet_step (fail))
      refine wpQuiet_nil ?_
      intro w8 hE8
      go_wp2_with fail
      go_roundw
      case rel => exact ⟨q + 1 + 1, by omega, by go_num, by rw [Hws.out], hE7.trans' hE8, Lib.hid HGN⟩
      case measure => simp [intOf]; omega
end Go.Proofs.Ytfhgnmijigdlmaa
