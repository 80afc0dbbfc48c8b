/- Contracts of layer 6: cross ratios of kernels. -/
import Derived.Test.YtaidoaggmllcfaaT15
namespace Go.Proofs.Ytaidoaggmllcfaa
open Go.RowKit
attribute [local go_sem] GW.cell

/-- the error and the cross ratio -/
def kcErr (t : Tbl) (i j m n : Int) : Int :=
  if tabB 0 1000000 t then (if placedB t.length (row t 0).length i j m n then (if tg t i.toNat n.toNat = 0 ∨ tg t m.toNat j.toNat = 0 then 6 else 0) else 4) else 1
def kcR (f : Int → Int → Int) (t : Tbl) (i j m n : Int) : Int :=
  if kcErr t i j m n = 0 then f (tg t i.toNat j.toNat * tg t m.toNat n.toNat) (tg t i.toNat n.toNat * tg t m.toNat j.toNat) else 0
def kcV (t : Tbl) (i j m n : Int) : Value := .agg #[.int .i64 (kcR ratN t i j m n), .int .i64 (kcR ratD t i j m n)]
theorem kcV_bad {t : Tbl} {i j m n : Int} (h : kcErr t i j m n ≠ 0) : kcV t i j m n = .agg #[.int .i64 0, .int .i64 0] := by simp [kcV, kcR, h]
def RetKc (t : Tbl) (i j m n : Int) (w : World) (e : Ending) (w' : World) : Prop := e = .returned (.tuple #[kcV t i j m n, .int .i64 (kcErr t i j m n)]) ∧ Ext w w'

set_option maxRecDepth 20000 in
set_option maxHeartbeats 8000000 in
theorem f48_c (a : Option Addr) (len cp : Nat) (t : Tbl) (i j m n : Int) (w : World) (hl : Table w a t) (hn : t.length = len) (hlen : len ≤ 1000000) (hin : ∀ q, (hq : q < t.length) → t[q].length ≤ 1000000) :
    Calls Try.prog 48 #[.slice a len cp, .int .i64 i, .int .i64 j, .int .i64 m, .int .i64 n] w (RetKc t i j m n w) := by
  have HB := Lib.hid (BlkC.new w #[.int .i64 0, .int .i64 0] 46)
  have hE0 := ext_alloc w (.cells #[.int .i64 0, .int .i64 0] 46)
  have hlt := HB.out.lt
  have C1 := fun W (h : Ext w W) => f17_c a len cp t W (hl.ext h) hn hlen hin
  unfold valT at C1
  cases h1 : tabB 0 1000000 t
  · rw [h1, show errOf false = 1 from rfl] at C1
    have C1 := Lib.hid C1
    have he : kcErr t i j m n = 1 := by unfold kcErr; rw [h1]; rfl
    have Hf : Hid (∀ W, Ext w W → RetKc t i j m n w (.returned (.tuple #[.agg #[.int .i64 0, .int .i64 0], .int .i64 1])) W) := Lib.hid (fun W h => ⟨by rw [kcV_bad (by omega), he], h⟩)
    clear h1 he
    go_enter Try.func48, Try.ntmps48
    go_wp2_with fail
    generalize w.alloc (.cells #[.int .i64 0, .int .i64 0] 46) = w0 at *
    refine (C1.out _ hE0).mono ?_
    rintro e w1 ⟨rfl, hX1⟩
    have hE1 := hE0.trans' hX1
    have g0 := (HB.out.ext hX1).cellv 0 (v := .int .i64 0) rfl
    have g1 := (HB.out.ext hX1).cellv 1 (v := .int .i64 0) rfl
    have gf := (HB.out.ext hX1).frozen
    go_wp2_with fail
    refine bodyPost_ret (v := .tuple #[.agg #[.int .i64 0, .int .i64 0], .int .i64 1]) (by simp [results, Try.results48, go_sem, g0, g1]) rfl (Hf.out _ ?_)
    exact ext_set2 hE1 (Nat.le_refl _) _ _
  have H0 := tabB_ok h1
  have hn1 := H0.n1
  have hn5 := H0.n5
  have hm1 := H0.m1
  have hm5 := H0.m5
  rw [h1] at C1
  have C1 := Lib.hid C1
  obtain ⟨b0, o0, a0, c0, rfl, hb0, hc0, hI0⟩ := hl 0 (by omega)
  rw [← row_at (by omega)] at hc0
  simp only [Nat.add_zero] at hc0
  have C2 := fun W => f75_c (t.length : Int) ((row t 0).length : Int) i j m n W (by omega) (by omega)
  rw [hn] at C2
  cases h2 : placedB t.length (row t 0).length i j m n
  · have he : kcErr t i j m n = 4 := by unfold kcErr; rw [h1, h2]; rfl
    rw [hn] at h2
    rw [h2] at C2
    rw [if_neg (by decide)] at C2
    have C2 := Lib.hid C2
    have Hf : Hid (∀ W, Ext w W → RetKc t i j m n w (.returned (.tuple #[.agg #[.int .i64 0, .int .i64 0], .int .i64 4])) W) := Lib.hid (fun W h => ⟨by rw [kcV_bad (by omega), he], h⟩)
    have hlen0 : 0 < len := by omega
    clear h1 h2 he hI0 hn H0
    generalize (row t 0).length = M at *
    go_enter Try.func48, Try.ntmps48
    go_wp2_with fail
    generalize w.alloc (.cells #[.int .i64 0, .int .i64 0] 46) = w0 at *
    refine (C1.out _ hE0).mono ?_
    rintro e w1 ⟨rfl, hX1⟩
    have hE1 := hE0.trans' hX1
    have hc1 := (hE1.cell' hb0).trans hc0
    go_wp2_with fail
    refine (C2.out _).mono ?_
    rintro e w2 ⟨rfl, hX2⟩
    have hE2 := hE1.trans' hX2
    have hX2 := hX1.trans' hX2
    have g0 := (HB.out.ext hX2).cellv 0 (v := .int .i64 0) rfl
    have g1 := (HB.out.ext hX2).cellv 1 (v := .int .i64 0) rfl
    have gf := (HB.out.ext hX2).frozen
    go_wp2_with fail
    refine bodyPost_ret (v := .tuple #[.agg #[.int .i64 0, .int .i64 0], .int .i64 4]) (by simp [results, Try.results48, go_sem, g0, g1]) rfl (Hf.out _ ?_)
    exact ext_set2 hE2 (Nat.le_refl _) _ _
  obtain ⟨p1, p2, p3, p4⟩ := placed_in h2
  have he : kcErr t i j m n = if tg t i.toNat n.toNat = 0 ∨ tg t m.toNat j.toNat = 0 then 6 else 0 := by unfold kcErr; rw [h1, h2]; rfl
  rw [hn] at h2
  rw [h2] at C2
  rw [if_pos rfl] at C2
  have C2 := Lib.hid C2
  obtain ⟨i, rfl⟩ := Int.eq_ofNat_of_zero_le p1.1
  obtain ⟨j, rfl⟩ := Int.eq_ofNat_of_zero_le p3.1
  obtain ⟨m, rfl⟩ := Int.eq_ofNat_of_zero_le p2.1
  obtain ⟨n, rfl⟩ := Int.eq_ofNat_of_zero_le p4.1
  simp only [Int.toNat_natCast] at he
  have hi : i < t.length := by omega
  have hm : m < t.length := by omega
  have hj : j < (row t 0).length := by omega
  have hnn : n < (row t 0).length := by omega
  have li := H0.cols i hi
  have lm := H0.cols m hm
  have ba := H0.bd i j hi hj
  have bb := H0.bd m n hm hnn
  have bc := H0.bd i n hi hnn
  have bd := H0.bd m j hm hj
  obtain ⟨b1, o1, a1, c1, e1, hb1, hc1, hI1⟩ := hl i hi
  obtain ⟨b2, o2, a2, c2, e2, hb2, hc2, hI2⟩ := hl m hm
  simp only [Option.some.injEq, Addr.mk.injEq, and_true] at e1 e2
  obtain ⟨rfl, rfl⟩ := e1
  obtain ⟨rfl, rfl⟩ := e2
  rw [← row_at hi] at hc1 hI1
  rw [← row_at hm] at hc2 hI2
  rw [li] at hc1
  rw [lm] at hc2
  obtain ⟨b3, o3, rfl, hb3, xa⟩ := hI1 j (by omega)
  obtain ⟨b3', o3', e3, _, xc⟩ := hI1 n (by omega)
  simp only [Option.some.injEq, Addr.mk.injEq, and_true] at e3
  obtain ⟨rfl, rfl⟩ := e3
  obtain ⟨b4, o4, rfl, hb4, xb⟩ := hI2 n (by omega)
  obtain ⟨b4', o4', e4, _, xd⟩ := hI2 j (by omega)
  simp only [Option.some.injEq, Addr.mk.injEq, and_true] at e4
  obtain ⟨rfl, rfl⟩ := e4
  rw [← gi_at] at xa xb xc xd
  have q1 : gi (row t i) j = tg t i j := rfl
  have q2 : gi (row t m) n = tg t m n := rfl
  have q3 : gi (row t i) n = tg t i n := rfl
  have q4 : gi (row t m) j = tg t m j := rfl
  rw [q1] at xa
  rw [q2] at xb
  rw [q3] at xc
  rw [q4] at xd
  have Hv : Hid (kcErr t i j m n = 0 → kcV t i j m n = fracV (tg t i j * tg t m n) (tg t i n * tg t m j)) := Lib.hid (fun h => by unfold kcV kcR fracV; rw [if_pos h, if_pos h]; simp only [Int.toNat_natCast])
  have he6 : (tg t i n = 0 ∨ tg t m j = 0) → kcErr t i j m n = 6 := fun h => by rw [he, if_pos h]
  have he0 : ¬ (tg t i n = 0 ∨ tg t m j = 0) → kcErr t i j m n = 0 := fun h => by rw [he, if_neg h]
  clear he
  have hi' : i < len := by omega
  have hm' : m < len := by omega
  clear h1 h2 hI0 hI1 hI2 p1 p2 p3 p4 li lm H0 q1 q2 q3 q4
  generalize tg t i j = na at *
  generalize tg t m n = nb at *
  generalize tg t i n = nc at *
  generalize tg t m j = nd at *
  generalize (row t 0).length = M at *
  have BA := Lib.hid ba
  have BB := Lib.hid bb
  have BC := Lib.hid bc
  have BD := Lib.hid bd
  have HE6 := Lib.hid he6
  have HE0 := Lib.hid he0
  clear he6 he0 hn1 hn5 hm1 hm5 hlen hin hn
  go_enter Try.func48, Try.ntmps48
  go_wp2_with fail
  generalize w.alloc (.cells #[.int .i64 0, .int .i64 0] 46) = w0 at *
  refine (C1.out _ hE0).mono ?_
  rintro e w1 ⟨rfl, hX1⟩
  have hE1 := hE0.trans' hX1
  have hc0' := (hE1.cell' hb0).trans hc0
  go_wp2_with fail
  refine (C2.out _).mono ?_
  rintro e w2 ⟨rfl, hX2⟩
  have hE2 := hE1.trans' hX2
  have hX2 := hX1.trans' hX2
  have g0 := (HB.out.ext hX2).cellv 0 (v := .int .i64 0) rfl
  have g1 := (HB.out.ext hX2).cellv 1 (v := .int .i64 0) rfl
  have gf := (HB.out.ext hX2).frozen
  have k1 := (hE2.cell' hb1).trans hc1
  have k2 := (hE2.cell' hb2).trans hc2
  have xa := (hE2.cell' hb3).trans xa
  have xb := (hE2.cell' hb4).trans xb
  have xc := (hE2.cell' hb3).trans xc
  have xd := (hE2.cell' hb4).trans xd
  have z1 : b0 < w2.heap.size := Nat.lt_of_lt_of_le hb0 hE2.size
  have z3 : b3 < w2.heap.size := Nat.lt_of_lt_of_le hb3 hE2.size
  have z4 : b4 < w2.heap.size := Nat.lt_of_lt_of_le hb4 hE2.size
  clear hc0 hc0' hc1 hc2
  by_cases hz : nc = 0 ∨ nd = 0
  · have he := HE6.out hz
    have Hf : Hid (∀ W, Ext w W → RetKc t i j m n w (.returned (.tuple #[.agg #[.int .i64 0, .int .i64 0], .int .i64 6])) W) := Lib.hid (fun W h => ⟨by rw [kcV_bad (by omega), he], h⟩)
    by_cases hc : nc = 0
    · have dc0 : (nc == 0) = true := by simp [hc]
      clear he hz hc
      go_wp2_with fail
      refine bodyPost_ret (v := .tuple #[.agg #[.int .i64 0, .int .i64 0], .int .i64 6]) (by simp [results, Try.results48, go_sem, g0, g1]) rfl (Hf.out _ ?_)
      exact ext_set2 hE2 (Nat.le_refl _) _ _
    · have dc0 : (nc == 0) = false := by simp [hc]
      have dd0 : (nd == 0) = true := by
        rcases hz with h | h
        · exact absurd h hc
        · simp [h]
      clear he hz hc
      go_wp2_with fail
      refine bodyPost_ret (v := .tuple #[.agg #[.int .i64 0, .int .i64 0], .int .i64 6]) (by simp [results, Try.results48, go_sem, g0, g1]) rfl (Hf.out _ ?_)
      exact ext_set2 hE2 (Nat.le_refl _) _ _
  · have he := HE0.out hz
    have Hv2 := Lib.hid (Hv.out he)
    have HE := Lib.hid he
    have hnc : nc ≠ 0 := fun e => hz (.inl e)
    have hnd : nd ≠ 0 := fun e => hz (.inr e)
    have dc0 : (nc == 0) = false := by simp [hnc]
    have dd0 : (nd == 0) = false := by simp [hnd]
    have u1 := mulR ba bb
    have u2 := mulR bc bd
    have v4 := mul1 (show 1 ≤ nc by omega) (show 1 ≤ nd by omega)
    have C3 := Lib.hid (fun W => f76_c (na * nb) (nc * nd) W ⟨u1.1, by omega⟩ ⟨v4, by omega⟩)
    have Hf : Hid (∀ W, Ext w W → RetKc t i j m n w (.returned (.tuple #[fracV (na * nb) (nc * nd), .int .i64 0])) W) := Lib.hid (fun W h => ⟨by rw [Hv2.out, he], h⟩)
    unfold fracV at C3 Hf
    clear he HE6 HE0 Hv Hv2 hz HE
    generalize ratN (na * nb) (nc * nd) = fn at *
    generalize ratD (na * nb) (nc * nd) = fd at *
    go_wp2_with fail
    refine wp_region_ext_tail 31 (by kernel_rfl) (by kernel_rfl) ?_
    simp only [List.take_succ_cons, List.take_zero, List.drop_succ_cons, List.drop_zero]
    repeat (go_big_quiet_step ((go_at_call 76; exact quiet_ext (C3.out _))))
    refine wpQuiet_nil ?_
    intro w5 hX5
    have hE5 := hE2.trans' hX5
    have hX5 := hX2.trans' hX5
    clear g0 g1 gf k1 k2 xa xb xc xd
    have g0 := (HB.out.ext hX5).cellv 0 (v := .int .i64 0) rfl
    have g1 := (HB.out.ext hX5).cellv 1 (v := .int .i64 0) rfl
    have gf := (HB.out.ext hX5).frozen
    go_wp2_with fail
    refine bodyPost_ret (v := .tuple #[.agg #[.int .i64 fn, .int .i64 fd], .int .i64 0]) (by simp [results, Try.results48, go_sem, g0, g1]) rfl (Hf.out _ ?_)
    exact ext_set2 hE5 (Nat.le_refl _) _ _

set_option maxRecDepth 20000 in
set_option maxHeartbeats 8000000 in
theorem f49_c (a : Option Addr) (len cp : Nat) (t : Tbl) (i j m n : Int) (w : World) (hl : Table w a t) (hn : t.length = len) (hlen : len ≤ 1000000) (hin : ∀ q, (hq : q < t.length) → t[q].length ≤ 1000000) :
    Calls Try.prog 49 #[.slice a len cp, .int .i64 i, .int .i64 j, .int .i64 m, .int .i64 n] w (RetKc t i j m n w) := by
  have HB := Lib.hid (BlkC.new w #[.int .i64 0, .int .i64 0] 46)
  have hE0 := ext_alloc w (.cells #[.int .i64 0, .int .i64 0] 46)
  have hlt := HB.out.lt
  have C1 := fun W (h : Ext w W) => f18_c a len cp t W (hl.ext h) hn hlen hin
  unfold valT at C1
  cases h1 : tabB 0 1000000 t
  · rw [h1, show errOf false = 1 from rfl] at C1
    have C1 := Lib.hid C1
    have he : kcErr t i j m n = 1 := by unfold kcErr; rw [h1]; rfl
    have Hf : Hid (∀ W, Ext w W → RetKc t i j m n w (.returned (.tuple #[.agg #[.int .i64 0, .int .i64 0], .int .i64 1])) W) := Lib.hid (fun W h => ⟨by rw [kcV_bad (by omega), he], h⟩)
    clear h1 he
    go_enter Try.func49, Try.ntmps49
    go_wp2_with fail
    generalize w.alloc (.cells #[.int .i64 0, .int .i64 0] 46) = w0 at *
    refine (C1.out _ hE0).mono ?_
    rintro e w1 ⟨rfl, hX1⟩
    have hE1 := hE0.trans' hX1
    have g0 := (HB.out.ext hX1).cellv 0 (v := .int .i64 0) rfl
    have g1 := (HB.out.ext hX1).cellv 1 (v := .int .i64 0) rfl
    have gf := (HB.out.ext hX1).frozen
    go_wp2_with fail
    refine bodyPost_ret (v := .tuple #[.agg #[.int .i64 0, .int .i64 0], .int .i64 1]) (by simp [results, Try.results49, go_sem, g0, g1]) rfl (Hf.out _ ?_)
    exact ext_set2 hE1 (Nat.le_refl _) _ _
  have H0 := tabB_ok h1
  have hn1 := H0.n1
  have hn5 := H0.n5
  have hm1 := H0.m1
  have hm5 := H0.m5
  rw [h1] at C1
  have C1 := Lib.hid C1
  obtain ⟨b0, o0, a0, c0, rfl, hb0, hc0, hI0⟩ := hl 0 (by omega)
  rw [← row_at (by omega)] at hc0
  simp only [Nat.add_zero] at hc0
  have C2 := fun W => f78_c (t.length : Int) ((row t 0).length : Int) i j m n W (by omega) (by omega)
  rw [hn] at C2
  cases h2 : placedB t.length (row t 0).length i j m n
  · have he : kcErr t i j m n = 4 := by unfold kcErr; rw [h1, h2]; rfl
    rw [hn] at h2
    rw [h2] at C2
    skip
    have C2 := Lib.hid C2
    have Hf : Hid (∀ W, Ext w W → RetKc t i j m n w (.returned (.tuple #[.agg #[.int .i64 0, .int .i64 0], .int .i64 4])) W) := Lib.hid (fun W h => ⟨by rw [kcV_bad (by omega), he], h⟩)
    have hlen0 : 0 < len := by omega
    clear h1 h2 he hI0 hn H0
    generalize (row t 0).length = M at *
    go_enter Try.func49, Try.ntmps49
    go_wp2_with fail
    generalize w.alloc (.cells #[.int .i64 0, .int .i64 0] 46) = w0 at *
    refine (C1.out _ hE0).mono ?_
    rintro e w1 ⟨rfl, hX1⟩
    have hE1 := hE0.trans' hX1
    have hc1 := (hE1.cell' hb0).trans hc0
    go_wp2_with fail
    refine (C2.out _).mono ?_
    rintro e w2 ⟨rfl, hX2⟩
    have hE2 := hE1.trans' hX2
    have hX2 := hX1.trans' hX2
    have g0 := (HB.out.ext hX2).cellv 0 (v := .int .i64 0) rfl
    have g1 := (HB.out.ext hX2).cellv 1 (v := .int .i64 0) rfl
    have gf := (HB.out.ext hX2).frozen
    go_wp2_with fail
    refine bodyPost_ret (v := .tuple #[.agg #[.int .i64 0, .int .i64 0], .int .i64 4]) (by simp [results, Try.results49, go_sem, g0, g1]) rfl (Hf.out _ ?_)
    exact ext_set2 hE2 (Nat.le_refl _) _ _
  obtain ⟨p1, p2, p3, p4⟩ := placed_in h2
  have he : kcErr t i j m n = if tg t i.toNat n.toNat = 0 ∨ tg t m.toNat j.toNat = 0 then 6 else 0 := by unfold kcErr; rw [h1, h2]; rfl
  rw [hn] at h2
  rw [h2] at C2
  skip
  have C2 := Lib.hid C2
  obtain ⟨i, rfl⟩ := Int.eq_ofNat_of_zero_le p1.1
  obtain ⟨j, rfl⟩ := Int.eq_ofNat_of_zero_le p3.1
  obtain ⟨m, rfl⟩ := Int.eq_ofNat_of_zero_le p2.1
  obtain ⟨n, rfl⟩ := Int.eq_ofNat_of_zero_le p4.1
  simp only [Int.toNat_natCast] at he
  have hi : i < t.length := by omega
  have hm : m < t.length := by omega
  have hj : j < (row t 0).length := by omega
  have hnn : n < (row t 0).length := by omega
  have li := H0.cols i hi
  have lm := H0.cols m hm
  have ba := H0.bd i j hi hj
  have bb := H0.bd m n hm hnn
  have bc := H0.bd i n hi hnn
  have bd := H0.bd m j hm hj
  obtain ⟨b1, o1, a1, c1, e1, hb1, hc1, hI1⟩ := hl i hi
  obtain ⟨b2, o2, a2, c2, e2, hb2, hc2, hI2⟩ := hl m hm
  simp only [Option.some.injEq, Addr.mk.injEq, and_true] at e1 e2
  obtain ⟨rfl, rfl⟩ := e1
  obtain ⟨rfl, rfl⟩ := e2
  rw [← row_at hi] at hc1 hI1
  rw [← row_at hm] at hc2 hI2
  rw [li] at hc1
  rw [lm] at hc2
  obtain ⟨b3, o3, rfl, hb3, xa⟩ := hI1 j (by omega)
  obtain ⟨b3', o3', e3, _, xc⟩ := hI1 n (by omega)
  simp only [Option.some.injEq, Addr.mk.injEq, and_true] at e3
  obtain ⟨rfl, rfl⟩ := e3
  obtain ⟨b4, o4, rfl, hb4, xb⟩ := hI2 n (by omega)
  obtain ⟨b4', o4', e4, _, xd⟩ := hI2 j (by omega)
  simp only [Option.some.injEq, Addr.mk.injEq, and_true] at e4
  obtain ⟨rfl, rfl⟩ := e4
  rw [← gi_at] at xa xb xc xd
  have q1 : gi (row t i) j = tg t i j := rfl
  have q2 : gi (row t m) n = tg t m n := rfl
  have q3 : gi (row t i) n = tg t i n := rfl
  have q4 : gi (row t m) j = tg t m j := rfl
  rw [q1] at xa
  rw [q2] at xb
  rw [q3] at xc
  rw [q4] at xd
  have Hv : Hid (kcErr t i j m n = 0 → kcV t i j m n = fracV (tg t i j * tg t m n) (tg t i n * tg t m j)) := Lib.hid (fun h => by unfold kcV kcR fracV; rw [if_pos h, if_pos h]; simp only [Int.toNat_natCast])
  have he6 : (tg t i n = 0 ∨ tg t m j = 0) → kcErr t i j m n = 6 := fun h => by rw [he, if_pos h]
  have he0 : ¬ (tg t i n = 0 ∨ tg t m j = 0) → kcErr t i j m n = 0 := fun h => by rw [he, if_neg h]
  clear he
  have hi' : i < len := by omega
  have hm' : m < len := by omega
  clear h1 h2 hI0 hI1 hI2 p1 p2 p3 p4 li lm H0 q1 q2 q3 q4
  generalize tg t i j = na at *
  generalize tg t m n = nb at *
  generalize tg t i n = nc at *
  generalize tg t m j = nd at *
  generalize (row t 0).length = M at *
  have BA := Lib.hid ba
  have BB := Lib.hid bb
  have BC := Lib.hid bc
  have BD := Lib.hid bd
  have HE6 := Lib.hid he6
  have HE0 := Lib.hid he0
  clear he6 he0 hn1 hn5 hm1 hm5 hlen hin hn
  go_enter Try.func49, Try.ntmps49
  go_wp2_with fail
  generalize w.alloc (.cells #[.int .i64 0, .int .i64 0] 46) = w0 at *
  refine (C1.out _ hE0).mono ?_
  rintro e w1 ⟨rfl, hX1⟩
  have hE1 := hE0.trans' hX1
  have hc0' := (hE1.cell' hb0).trans hc0
  go_wp2_with fail
  refine (C2.out _).mono ?_
  rintro e w2 ⟨rfl, hX2⟩
  have hE2 := hE1.trans' hX2
  have hX2 := hX1.trans' hX2
  have g0 := (HB.out.ext hX2).cellv 0 (v := .int .i64 0) rfl
  have g1 := (HB.out.ext hX2).cellv 1 (v := .int .i64 0) rfl
  have gf := (HB.out.ext hX2).frozen
  have k1 := (hE2.cell' hb1).trans hc1
  have k2 := (hE2.cell' hb2).trans hc2
  have xa := (hE2.cell' hb3).trans xa
  have xb := (hE2.cell' hb4).trans xb
  have xc := (hE2.cell' hb3).trans xc
  have xd := (hE2.cell' hb4).trans xd
  have z1 : b0 < w2.heap.size := Nat.lt_of_lt_of_le hb0 hE2.size
  have z3 : b3 < w2.heap.size := Nat.lt_of_lt_of_le hb3 hE2.size
  have z4 : b4 < w2.heap.size := Nat.lt_of_lt_of_le hb4 hE2.size
  clear hc0 hc0' hc1 hc2
  by_cases hz : nc = 0 ∨ nd = 0
  · have he := HE6.out hz
    have Hf : Hid (∀ W, Ext w W → RetKc t i j m n w (.returned (.tuple #[.agg #[.int .i64 0, .int .i64 0], .int .i64 6])) W) := Lib.hid (fun W h => ⟨by rw [kcV_bad (by omega), he], h⟩)
    by_cases hc : nc = 0
    · have dc0 : (nc == 0) = true := by simp [hc]
      clear he hz hc
      go_wp2_with fail
      refine bodyPost_ret (v := .tuple #[.agg #[.int .i64 0, .int .i64 0], .int .i64 6]) (by simp [results, Try.results49, go_sem, g0, g1]) rfl (Hf.out _ ?_)
      exact ext_set2 hE2 (Nat.le_refl _) _ _
    · have dc0 : (nc == 0) = false := by simp [hc]
      have dd0 : (nd == 0) = true := by
        rcases hz with h | h
        · exact absurd h hc
        · simp [h]
      clear he hz hc
      go_wp2_with fail
      refine bodyPost_ret (v := .tuple #[.agg #[.int .i64 0, .int .i64 0], .int .i64 6]) (by simp [results, Try.results49, go_sem, g0, g1]) rfl (Hf.out _ ?_)
      exact ext_set2 hE2 (Nat.le_refl _) _ _
  · have he := HE0.out hz
    have Hv2 := Lib.hid (Hv.out he)
    have HE := Lib.hid he
    have hnc : nc ≠ 0 := fun e => hz (.inl e)
    have hnd : nd ≠ 0 := fun e => hz (.inr e)
    have dc0 : (nc == 0) = false := by simp [hnc]
    have dd0 : (nd == 0) = false := by simp [hnd]
    have u1 := mulR ba bb
    have u2 := mulR bc bd
    have v4 := mul1 (show 1 ≤ nc by omega) (show 1 ≤ nd by omega)
    have C3 := Lib.hid (fun W => f79_c (na * nb) (nc * nd) W ⟨u1.1, by omega⟩ ⟨v4, by omega⟩)
    have Hf : Hid (∀ W, Ext w W → RetKc t i j m n w (.returned (.tuple #[fracV (na * nb) (nc * nd), .int .i64 0])) W) := Lib.hid (fun W h => ⟨by rw [Hv2.out, he], h⟩)
    unfold fracV at C3 Hf
    clear he HE6 HE0 Hv Hv2 hz HE
    generalize ratN (na * nb) (nc * nd) = fn at *
    generalize ratD (na * nb) (nc * nd) = fd at *
    go_wp2_with fail
    refine wp_region_ext_tail 31 (by kernel_rfl) (by kernel_rfl) ?_
    simp only [List.take_succ_cons, List.take_zero, List.drop_succ_cons, List.drop_zero]
    repeat (go_big_quiet_step ((go_at_call 79; exact quiet_ext (C3.out _))))
    refine wpQuiet_nil ?_
    intro w5 hX5
    have hE5 := hE2.trans' hX5
    have hX5 := hX2.trans' hX5
    clear g0 g1 gf k1 k2 xa xb xc xd
    have g0 := (HB.out.ext hX5).cellv 0 (v := .int .i64 0) rfl
    have g1 := (HB.out.ext hX5).cellv 1 (v := .int .i64 0) rfl
    have gf := (HB.out.ext hX5).frozen
    go_wp2_with fail
    refine bodyPost_ret (v := .tuple #[.agg #[.int .i64 fn, .int .i64 fd], .int .i64 0]) (by simp [results, Try.results49, go_sem, g0, g1]) rfl (Hf.out _ ?_)
    exact ext_set2 hE5 (Nat.le_refl _) _ _

end Go.Proofs.Ytaidoaggmllcfaa
