/- Contracts of layer 6: cross ratios of tables of fractions. -/
import Derived.RegionTactic
import Derived.BigRegion
import Derived.Test.YtaidoaggmllcfaaT13
namespace Go.Proofs.Ytaidoaggmllcfaa
open Go.RowKit
attribute [local go_sem] GW.cell

def rg (t : List (List Rat)) (i j : Nat) : Rat := (rrow t i)[j]?.getD default
theorem rg_at {t : List (List Rat)} {i j : Nat} (h : i < t.length) (h2 : j < t[i].length) : rg t i j = t[i][j] := by simp [rg, rrow, h, h2]
def upX (a b c d : Rat) : Int := a.num * b.num * c.den * d.den
def dnX (a b c d : Rat) : Int := a.den * b.den * c.num * d.num
/-- the error and the cross ratio -/
def crErr (t : List (List Rat)) (i j m n : Int) : Int :=
  if fracB t then (if placedB t.length (rrow t 0).length i j m n then (if (rg t i.toNat n.toNat).num = 0 ∨ (rg t m.toNat j.toNat).num = 0 then 6 else 0) else 4) else 1
def crR (f : Int → Int → Int) (t : List (List Rat)) (i j m n : Int) : Int :=
  if crErr t i j m n = 0 then f (upX (rg t i.toNat j.toNat) (rg t m.toNat n.toNat) (rg t i.toNat n.toNat) (rg t m.toNat j.toNat)) (dnX (rg t i.toNat j.toNat) (rg t m.toNat n.toNat) (rg t i.toNat n.toNat) (rg t m.toNat j.toNat)) else 0
def crV (t : List (List Rat)) (i j m n : Int) : Value := .agg #[.int .i64 (crR ratN t i j m n), .int .i64 (crR ratD t i j m n)]
theorem crV_bad {t : List (List Rat)} {i j m n : Int} (h : crErr t i j m n ≠ 0) : crV t i j m n = .agg #[.int .i64 0, .int .i64 0] := by simp [crV, crR, h]
theorem mulR {x y X Y : Int} (h : 0 ≤ x ∧ x ≤ X) (k : 0 ≤ y ∧ y ≤ Y) : 0 ≤ x * y ∧ x * y ≤ X * Y := ⟨Int.mul_nonneg h.1 k.1, Int.mul_le_mul h.2 k.2 k.1 (Int.le_trans h.1 h.2)⟩
theorem mul1 {x y : Int} (h : 1 ≤ x) (k : 1 ≤ y) : 1 ≤ x * y := by
  have := Int.mul_pos (show 0 < x by omega) (show 0 < y by omega); omega
theorem validR_bd {r : Rat} (h : validR r = true) : (0 ≤ r.num ∧ r.num ≤ 30000) ∧ (1 ≤ r.den ∧ r.den ≤ 30000) := by
  simp only [validR, Bool.and_eq_true] at h
  exact ⟨withinB_iff.1 h.2.1, withinB_iff.1 h.1⟩
theorem placed_in {r c : Nat} {i j m n : Int} (h : placedB r c i j m n = true) : (0 ≤ i ∧ i < r) ∧ (0 ≤ m ∧ m < r) ∧ (0 ≤ j ∧ j < c) ∧ (0 ≤ n ∧ n < c) := by
  simp only [placedB, Bool.and_eq_true] at h
  have h1 := withinB_iff.1 h.1
  have h2 := withinB_iff.1 h.2.1
  have h3 := withinB_iff.1 h.2.2.1
  have h4 := withinB_iff.1 h.2.2.2
  omega
def RetRat (t : List (List Rat)) (i j m n : Int) (w : World) (e : Ending) (w' : World) : Prop := e = .returned (.tuple #[crV t i j m n, .int .i64 (crErr t i j m n)]) ∧ Ext w w'
theorem ext_set2 {w W : World} {B : Nat} (h : Ext w W) (hB : w.heap.size ≤ B) (u v : Value) : Ext w ((W.setCell ⟨B, 0, none⟩ u).setCell ⟨B, 1, none⟩ v) := (h.setCell (show w.heap.size ≤ B from hB) u).setCell (show w.heap.size ≤ B from hB) v

set_option maxRecDepth 20000 in
set_option maxHeartbeats 8000000 in
theorem f31_c (a : Option Addr) (len cp : Nat) (t : List (List Rat)) (i j m n : Int) (w : World) (hl : RatT w a t) (hn : t.length = len) (hlen : len ≤ 1000000) (hin : ∀ q, (hq : q < t.length) → t[q].length ≤ 1000000) :
    Calls Try.prog 31 #[.slice a len cp, .int .i64 i, .int .i64 j, .int .i64 m, .int .i64 n] w (RetRat t i j m n w) := by
  have HB := Lib.hid (BlkC.new w #[.int .i64 0, .int .i64 0] 46)
  have hE0 := ext_alloc w (.cells #[.int .i64 0, .int .i64 0] 46)
  have hlt := HB.out.lt
  have C1 := fun W (h : Ext w W) => f77_c a len cp t W (hl.ext h) hn hlen hin
  cases h1 : fracB t
  · rw [h1] at C1
    have C1 := Lib.hid C1
    have he : crErr t i j m n = 1 := by unfold crErr; rw [h1]; rfl
    have Hf : Hid (∀ W, Ext w W → RetRat t i j m n w (.returned (.tuple #[.agg #[.int .i64 0, .int .i64 0], .int .i64 1])) W) := Lib.hid (fun W h => ⟨by rw [crV_bad (by omega), he], h⟩)
    clear h1 he
    go_enter Try.func31, Try.ntmps31
    go_wp2_with fail
    generalize w.alloc (.cells #[.int .i64 0, .int .i64 0] 46) = w0 at *
    refine (C1.out _ hE0).mono ?_
    rintro e w1 ⟨rfl, hX1⟩
    have hE1 := hE0.trans' hX1
    have g0 := (HB.out.ext hX1).cellv 0 (v := .int .i64 0) rfl
    have g1 := (HB.out.ext hX1).cellv 1 (v := .int .i64 0) rfl
    have gf := (HB.out.ext hX1).frozen
    go_wp2_with fail
    refine bodyPost_ret (v := .tuple #[.agg #[.int .i64 0, .int .i64 0], .int .i64 1]) (by simp [results, Try.results31, go_sem, g0, g1]) rfl (Hf.out _ ?_)
    exact ext_set2 hE1 (Nat.le_refl _) _ _
  obtain ⟨⟨hn1, hn5⟩, ⟨hm1, hm5⟩, hrows⟩ := fracB_at h1
  rw [h1] at C1
  have C1 := Lib.hid C1
  obtain ⟨b0, o0, a0, c0, rfl, hb0, hc0, hI0⟩ := hl 0 (by omega)
  have hr0 : rrow t 0 = t[0] := rrow_at (by omega)
  rw [← hr0] at hc0
  simp only [Nat.add_zero] at hc0
  have C2 := fun W => f78_c (t.length : Int) ((rrow t 0).length : Int) i j m n W (by omega) (by omega)
  rw [hn] at C2
  cases h2 : placedB t.length (rrow t 0).length i j m n
  · have he : crErr t i j m n = 4 := by unfold crErr; rw [h1, h2]; rfl
    rw [hn] at h2
    rw [h2] at C2
    skip
    have C2 := Lib.hid C2
    have Hf : Hid (∀ W, Ext w W → RetRat t i j m n w (.returned (.tuple #[.agg #[.int .i64 0, .int .i64 0], .int .i64 4])) W) := Lib.hid (fun W h => ⟨by rw [crV_bad (by omega), he], h⟩)
    have hlen0 : 0 < len := by omega
    clear h1 h2 he hr0 hI0 hrows hn
    generalize (rrow t 0).length = M at *
    go_enter Try.func31, Try.ntmps31
    go_wp2_with fail
    generalize w.alloc (.cells #[.int .i64 0, .int .i64 0] 46) = w0 at *
    refine (C1.out _ hE0).mono ?_
    rintro e w1 ⟨rfl, hX1⟩
    have hE1 := hE0.trans' hX1
    have hc1 := (hE1.cell' hb0).trans hc0
    go_wp2_with fail
    refine (C2.out _).mono ?_
    rintro e w2 ⟨rfl, hX2⟩
    have hE2 := hE1.trans' hX2
    have hX2 := hX1.trans' hX2
    have g0 := (HB.out.ext hX2).cellv 0 (v := .int .i64 0) rfl
    have g1 := (HB.out.ext hX2).cellv 1 (v := .int .i64 0) rfl
    have gf := (HB.out.ext hX2).frozen
    go_wp2_with fail
    refine bodyPost_ret (v := .tuple #[.agg #[.int .i64 0, .int .i64 0], .int .i64 4]) (by simp [results, Try.results31, go_sem, g0, g1]) rfl (Hf.out _ ?_)
    exact ext_set2 hE2 (Nat.le_refl _) _ _
  obtain ⟨p1, p2, p3, p4⟩ := placed_in h2
  have he : crErr t i j m n = if (rg t i.toNat n.toNat).num = 0 ∨ (rg t m.toNat j.toNat).num = 0 then 6 else 0 := by unfold crErr; rw [h1, h2]; rfl
  rw [hn] at h2
  rw [h2] at C2
  skip
  have C2 := Lib.hid C2
  obtain ⟨i, rfl⟩ := Int.eq_ofNat_of_zero_le p1.1
  obtain ⟨j, rfl⟩ := Int.eq_ofNat_of_zero_le p3.1
  obtain ⟨m, rfl⟩ := Int.eq_ofNat_of_zero_le p2.1
  obtain ⟨n, rfl⟩ := Int.eq_ofNat_of_zero_le p4.1
  simp only [Int.toNat_natCast] at he
  have hi : i < t.length := by omega
  have hm : m < t.length := by omega
  have hj : j < (rrow t 0).length := by omega
  have hnn : n < (rrow t 0).length := by omega
  obtain ⟨li, vi⟩ := hrows i hi
  obtain ⟨lm, vm⟩ := hrows m hm
  have ea := rg_at hi (show j < t[i].length by omega)
  have eb := rg_at hm (show n < t[m].length by omega)
  have ec := rg_at hi (show n < t[i].length by omega)
  have ed := rg_at hm (show j < t[m].length by omega)
  have ba := validR_bd (vi j (by omega))
  have bb := validR_bd (vm n (by omega))
  have bc := validR_bd (vi n (by omega))
  have bd := validR_bd (vm j (by omega))
  obtain ⟨b1, o1, a1, c1, e1, hb1, hc1, hI1⟩ := hl i hi
  obtain ⟨b2, o2, a2, c2, e2, hb2, hc2, hI2⟩ := hl m hm
  simp only [Option.some.injEq, Addr.mk.injEq, and_true] at e1 e2
  obtain ⟨rfl, rfl⟩ := e1
  obtain ⟨rfl, rfl⟩ := e2
  obtain ⟨b3, o3, rfl, hb3, xa, ya⟩ := hI1 j (by omega)
  obtain ⟨b3', o3', e3, _, xc, yc⟩ := hI1 n (by omega)
  simp only [Option.some.injEq, Addr.mk.injEq, and_true] at e3
  obtain ⟨rfl, rfl⟩ := e3
  obtain ⟨b4, o4, rfl, hb4, xb, yb⟩ := hI2 n (by omega)
  obtain ⟨b4', o4', e4, _, xd, yd⟩ := hI2 j (by omega)
  simp only [Option.some.injEq, Addr.mk.injEq, and_true] at e4
  obtain ⟨rfl, rfl⟩ := e4
  rw [← ea] at xa ya ba
  rw [← eb] at xb yb bb
  rw [← ec] at xc yc bc
  rw [← ed] at xd yd bd
  rw [li] at hc1
  rw [lm] at hc2
  have Hv : Hid (crErr t i j m n = 0 → crV t i j m n = fracV (upX (rg t i j) (rg t m n) (rg t i n) (rg t m j)) (dnX (rg t i j) (rg t m n) (rg t i n) (rg t m j))) := Lib.hid (fun h => by unfold crV crR fracV; rw [if_pos h, if_pos h]; simp only [Int.toNat_natCast])
  have he6 : ((rg t i n).num = 0 ∨ (rg t m j).num = 0) → crErr t i j m n = 6 := fun h => by rw [he, if_pos h]
  have he0 : ¬ ((rg t i n).num = 0 ∨ (rg t m j).num = 0) → crErr t i j m n = 0 := fun h => by rw [he, if_neg h]
  clear he
  have hi' : i < len := by omega
  have hm' : m < len := by omega
  clear h1 h2 hr0 hI0 hrows hI1 hI2 vi vm ea eb ec ed p1 p2 p3 p4 li lm
  generalize rg t i j = ra at *
  generalize rg t m n = rb at *
  generalize rg t i n = rc at *
  generalize rg t m j = rd at *
  generalize (rrow t 0).length = M at *
  obtain ⟨na, da⟩ := ra
  obtain ⟨nb, db⟩ := rb
  obtain ⟨nc, dc⟩ := rc
  obtain ⟨nd, dd⟩ := rd
  simp only [upX, dnX] at Hv
  simp only at xa ya xb yb xc yc xd yd ba bb bc bd he6 he0
  by_cases hz : nc = 0 ∨ nd = 0
  · have he := he6 hz
    have Hf : Hid (∀ W, Ext w W → RetRat t i j m n w (.returned (.tuple #[.agg #[.int .i64 0, .int .i64 0], .int .i64 6])) W) := Lib.hid (fun W h => ⟨by rw [crV_bad (by omega), he], h⟩)
    clear he he6 he0 Hv hn
    by_cases hz1 : nc = 0
    · subst hz1
      clear hz
      go_enter Try.func31, Try.ntmps31
      go_wp2_with fail
      generalize w.alloc (.cells #[.int .i64 0, .int .i64 0] 46) = w0 at *
      refine (C1.out _ hE0).mono ?_
      rintro e w1 ⟨rfl, hX1⟩
      have hE1 := hE0.trans' hX1
      have hc0' := (hE1.cell' hb0).trans hc0
      go_wp2_with fail
      refine (C2.out _).mono ?_
      rintro e w2 ⟨rfl, hX2⟩
      have hE2 := hE1.trans' hX2
      have hX2 := hX1.trans' hX2
      have g0 := (HB.out.ext hX2).cellv 0 (v := .int .i64 0) rfl
      have g1 := (HB.out.ext hX2).cellv 1 (v := .int .i64 0) rfl
      have gf := (HB.out.ext hX2).frozen
      have k1 := (hE2.cell' hb1).trans hc1
      have k2 := (hE2.cell' hb2).trans hc2
      have xa' := (hE2.cell' hb3).trans xa
      have ya' := (hE2.cell' hb3).trans ya
      have xb' := (hE2.cell' hb4).trans xb
      have yb' := (hE2.cell' hb4).trans yb
      have xc' := (hE2.cell' hb3).trans xc
      have yc' := (hE2.cell' hb3).trans yc
      have xd' := (hE2.cell' hb4).trans xd
      have yd' := (hE2.cell' hb4).trans yd
      have z1 : b0 < w2.heap.size := Nat.lt_of_lt_of_le hb0 hE2.size
      have z3 : b3 < w2.heap.size := Nat.lt_of_lt_of_le hb3 hE2.size
      have z4 : b4 < w2.heap.size := Nat.lt_of_lt_of_le hb4 hE2.size
      clear hc0 hc0' hc1 hc2 xa ya xb yb xc yc xd yd
      go_wp2_with fail
      refine bodyPost_ret (v := .tuple #[.agg #[.int .i64 0, .int .i64 0], .int .i64 6]) (by simp [results, Try.results31, go_sem, g0, g1]) rfl (Hf.out _ ?_)
      exact ext_set2 hE2 (Nat.le_refl _) _ _
    · have dc0 : (nc == 0) = false := by simp [hz1]
      obtain rfl : nd = 0 := by rcases hz with h | h; exact absurd h hz1; exact h
      clear hz hz1
      go_enter Try.func31, Try.ntmps31
      go_wp2_with fail
      generalize w.alloc (.cells #[.int .i64 0, .int .i64 0] 46) = w0 at *
      refine (C1.out _ hE0).mono ?_
      rintro e w1 ⟨rfl, hX1⟩
      have hE1 := hE0.trans' hX1
      have hc0' := (hE1.cell' hb0).trans hc0
      go_wp2_with fail
      refine (C2.out _).mono ?_
      rintro e w2 ⟨rfl, hX2⟩
      have hE2 := hE1.trans' hX2
      have hX2 := hX1.trans' hX2
      have g0 := (HB.out.ext hX2).cellv 0 (v := .int .i64 0) rfl
      have g1 := (HB.out.ext hX2).cellv 1 (v := .int .i64 0) rfl
      have gf := (HB.out.ext hX2).frozen
      have k1 := (hE2.cell' hb1).trans hc1
      have k2 := (hE2.cell' hb2).trans hc2
      have xa' := (hE2.cell' hb3).trans xa
      have ya' := (hE2.cell' hb3).trans ya
      have xb' := (hE2.cell' hb4).trans xb
      have yb' := (hE2.cell' hb4).trans yb
      have xc' := (hE2.cell' hb3).trans xc
      have yc' := (hE2.cell' hb3).trans yc
      have xd' := (hE2.cell' hb4).trans xd
      have yd' := (hE2.cell' hb4).trans yd
      have z1 : b0 < w2.heap.size := Nat.lt_of_lt_of_le hb0 hE2.size
      have z3 : b3 < w2.heap.size := Nat.lt_of_lt_of_le hb3 hE2.size
      have z4 : b4 < w2.heap.size := Nat.lt_of_lt_of_le hb4 hE2.size
      clear hc0 hc0' hc1 hc2 xa ya xb yb xc yc xd yd
      go_wp2_with fail
      refine bodyPost_ret (v := .tuple #[.agg #[.int .i64 0, .int .i64 0], .int .i64 6]) (by simp [results, Try.results31, go_sem, g0, g1]) rfl (Hf.out _ ?_)
      exact ext_set2 hE2 (Nat.le_refl _) _ _
  · have he := he0 hz
    have Hv2 := Lib.hid (Hv.out he)
    have HE := Lib.hid he
    have hnc : nc ≠ 0 := fun e => hz (.inl e)
    have hnd : nd ≠ 0 := fun e => hz (.inr e)
    have dc0 : (nc == 0) = false := by simp [hnc]
    have dd0 : (nd == 0) = false := by simp [hnd]
    have u1 := mulR ba.1 bb.1
    have u2 := mulR u1 (y := dc) (Y := 30000) ⟨by omega, bc.2.2⟩
    have u3 := mulR u2 (y := dd) (Y := 30000) ⟨by omega, bd.2.2⟩
    have v1 := mulR (x := da) (X := 30000) ⟨by omega, ba.2.2⟩ (y := db) (Y := 30000) ⟨by omega, bb.2.2⟩
    have v2 := mulR v1 bc.1
    have v3 := mulR v2 bd.1
    have v4 := mul1 (mul1 (mul1 ba.2.1 bb.2.1) (show 1 ≤ nc by omega)) (show 1 ≤ nd by omega)
    have C3 := Lib.hid (fun W => f79_c (na * nb * dc * dd) (da * db * nc * nd) W ⟨u3.1, by omega⟩ ⟨v4, by omega⟩)
    have Hf : Hid (∀ W, Ext w W → RetRat t i j m n w (.returned (.tuple #[fracV (na * nb * dc * dd) (da * db * nc * nd), .int .i64 0])) W) := Lib.hid (fun W h => ⟨by rw [Hv2.out, he], h⟩)
    unfold fracV at C3 Hf
    clear he he6 he0 Hv Hv2 hn hz HE
    generalize ratN (na * nb * dc * dd) (da * db * nc * nd) = fn at *
    generalize ratD (na * nb * dc * dd) (da * db * nc * nd) = fd at *
    go_enter Try.func31, Try.ntmps31
    go_wp2_with fail
    generalize w.alloc (.cells #[.int .i64 0, .int .i64 0] 46) = w0 at *
    refine (C1.out _ hE0).mono ?_
    rintro e w1 ⟨rfl, hX1⟩
    have hE1 := hE0.trans' hX1
    have hc0' := (hE1.cell' hb0).trans hc0
    go_wp2_with fail
    refine (C2.out _).mono ?_
    rintro e w2 ⟨rfl, hX2⟩
    have hE2 := hE1.trans' hX2
    have hX2 := hX1.trans' hX2
    have g0 := (HB.out.ext hX2).cellv 0 (v := .int .i64 0) rfl
    have g1 := (HB.out.ext hX2).cellv 1 (v := .int .i64 0) rfl
    have gf := (HB.out.ext hX2).frozen
    have k1 := (hE2.cell' hb1).trans hc1
    have k2 := (hE2.cell' hb2).trans hc2
    have xa' := (hE2.cell' hb3).trans xa
    have ya' := (hE2.cell' hb3).trans ya
    have xb' := (hE2.cell' hb4).trans xb
    have yb' := (hE2.cell' hb4).trans yb
    have xc' := (hE2.cell' hb3).trans xc
    have yc' := (hE2.cell' hb3).trans yc
    have xd' := (hE2.cell' hb4).trans xd
    have yd' := (hE2.cell' hb4).trans yd
    have z1 : b0 < w2.heap.size := Nat.lt_of_lt_of_le hb0 hE2.size
    have z3 : b3 < w2.heap.size := Nat.lt_of_lt_of_le hb3 hE2.size
    have z4 : b4 < w2.heap.size := Nat.lt_of_lt_of_le hb4 hE2.size
    go_wp2_with fail
    refine wp_region_ext (by kernel_rfl) (by kernel_rfl) ?_
    repeat (go_big_quiet_step (fail))
    refine wpQuiet_nil ?_
    intro w3 hX3
    have hE3 := hE2.trans' hX3
    have hX3 := hX2.trans' hX3
    clear k1 k2 xa' ya' xb' yb' xc' yc' xd' yd' g0 g1 gf
    have k1 := (hE3.cell' hb1).trans hc1
    have k2 := (hE3.cell' hb2).trans hc2
    have xa' := (hE3.cell' hb3).trans xa
    have ya' := (hE3.cell' hb3).trans ya
    have xb' := (hE3.cell' hb4).trans xb
    have yb' := (hE3.cell' hb4).trans yb
    have xc' := (hE3.cell' hb3).trans xc
    have yc' := (hE3.cell' hb3).trans yc
    have xd' := (hE3.cell' hb4).trans xd
    have yd' := (hE3.cell' hb4).trans yd
    have z1 : b0 < w3.heap.size := Nat.lt_of_lt_of_le hb0 hE3.size
    have z3 : b3 < w3.heap.size := Nat.lt_of_lt_of_le hb3 hE3.size
    have z4 : b4 < w3.heap.size := Nat.lt_of_lt_of_le hb4 hE3.size
    go_wp2_with fail
    refine wp_region_ext (by kernel_rfl) (by kernel_rfl) ?_
    repeat (go_big_quiet_step (fail))
    refine wpQuiet_nil ?_
    intro w4 hX4
    have hE4 := hE3.trans' hX4
    have hX4 := hX3.trans' hX4
    clear k1 k2 xa' ya' xb' yb' xc' yc' xd' yd'
    go_wp2_with fail
    refine (C3.out _).mono ?_
    rintro e w5 ⟨rfl, hX5⟩
    have hE5 := hE4.trans' hX5
    have hX5 := hX4.trans' hX5
    have g0 := (HB.out.ext hX5).cellv 0 (v := .int .i64 0) rfl
    have g1 := (HB.out.ext hX5).cellv 1 (v := .int .i64 0) rfl
    have gf := (HB.out.ext hX5).frozen
    go_wp2_with fail
    refine bodyPost_ret (v := .tuple #[.agg #[.int .i64 fn, .int .i64 fd], .int .i64 0]) (by simp [results, Try.results31, go_sem, g0, g1]) rfl (Hf.out _ ?_)
    exact ext_set2 hE5 (Nat.le_refl _) _ _

end Go.Proofs.Ytaidoaggmllcfaa
