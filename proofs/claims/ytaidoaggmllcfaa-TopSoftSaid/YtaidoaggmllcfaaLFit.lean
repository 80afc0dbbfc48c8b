/- The law of fits, walked. -/
import Derived.Test.YtaidoaggmllcfaaT8
namespace Go.Proofs.Ytaidoaggmllcfaa
open Go.RowKit
attribute [local go_sem] GW.cell

theorem wide_in {t : Tbl} (h : wideB t = false) : t.length ≤ 1000000 ∧ ∀ j, (hj : j < t.length) → t[j].length ≤ 1000000 := by
  obtain ⟨h1, h2⟩ := wideB_no h
  exact ⟨by omega, fun j hj => by have := h2 j hj; omega⟩
theorem fitV_small (t : Tbl) (x y : List Int) (r : Int) : (fitV t x y r).length ≤ 1000000 ∧ ∀ j, (hj : j < (fitV t x y r).length) → (fitV t x y r)[j].length ≤ 1000000 := by
  unfold fitV
  split
  · next h =>
    simp only [fitOk, Bool.and_eq_true, decide_eq_true_eq] at h
    obtain ⟨h1, h2, h3, h4, h5, h6⟩ := h
    have := fitN_ok (tabB_ok h1) (a := x) (b := y) (fun j hj => (massB_ok h2).2.2 j (by omega)) (fun j hj => (massB_ok h3).2.2 j (by omega)) r.toNat
    refine ⟨by rw [this.len]; have := this.n5; omega, fun j hj => ?_⟩
    rw [← row_at hj, this.cols j (by rw [← this.len]; exact hj)]
    have := this.m5; omega
  · simp
set_option maxRecDepth 20000 in
set_option maxHeartbeats 4000000 in
theorem fits_walk (w : World) (a : Option Addr) (len cap : Nat) (t : Tbl) (hl : Table w a t) (hn : t.length = len) (hlen : len ≤ 9223372036854775807)
    (ax : Option Addr) (na ca : Nat) (x : List Int) (hx : Ints w ax x) (hxn : x.length = na) (bx : Option Addr) (nb cb : Nat) (y : List Int) (hy : Ints w bx y) (hyn : y.length = nb) (r : Int) :
    Calls Try.prog 5 #[.slice a len cap, .agg #[.slice ax na ca, .slice bx nb cb], .int .i64 r] w fun e w' => e = .returned (.bool true) ∧ Below w.heap.size w w' := by
  have hE0 := ext_alloc w (.cells #[.slice ax na ca, .slice bx nb cb] 33)
  have HB := Lib.hid (BlkC.new w #[.slice ax na ca, .slice bx nb cb] 33)
  have hlt := HB.out.lt
  have C13 := f13_c a len cap t _ (hl.ext hE0) hn hlen
  have C20 := Lib.hid (fun W => f20_c ax bx na ca nb cb W)
  have hc0 := HB.out.cellv 0 (v := .slice ax na ca) rfl
  have hc1 := HB.out.cellv 1 (v := .slice bx nb cb) rfl
  have C13 := Lib.hid C13
  by_cases hw : wideB t = false ∧ na ≤ 50 ∧ nb ≤ 50
  · obtain ⟨hw1, ha, hb⟩ := hw
    obtain ⟨h1, hin⟩ := wide_in hw1
    obtain ⟨hkl, hkc⟩ := fitV_small t x y r
    rw [hw1] at C13
    have d1 : (decide (50 < na) || decide (50 < nb)) = false := by simp; omega
    have Hin := Lib.hid hin
    have Hkc := Lib.hid hkc
    have C27 := Lib.hid (fun W (h : Ext w W) => f27_c a ax bx len cap na ca nb cb t x y r W (hl.ext h) hn (by omega) hin (hx.ext h) hxn (by omega) (hy.ext h) hyn (by omega))
    have C28 := Lib.hid (fun W (h : Ext w W) => f28_c a ax bx len cap na ca nb cb t x y r W (hl.ext h) hn (by omega) hin (hx.ext h) hxn (by omega) (hy.ext h) hyn (by omega))
    clear hin hkc hw1 hxn hyn hn hl hx hy
    generalize fitV t x y r = K at *
    generalize errOf (fitOk t x y r) = E at *
    go_enter Try.func5, Try.ntmps5
    go_wp2_with fail
    generalize w.alloc (.cells #[.slice ax na ca, .slice bx nb cb] 33) = w0 at *
    go_wp2_with (first | (go_at_call 13; refine C13.out.mono ?_; rintro e w' ⟨rfl, rfl⟩) | (go_at_call 20; refine (C20.out _).mono ?_; rintro e w' ⟨rfl, rfl⟩))
    refine (C27.out _ hE0).mono ?_
    rintro e w1 ⟨a1, c1, rfl, hT1, hX1⟩
    have hE1 := hE0.trans' hX1
    have hc0 := (HB.out.ext hX1).cellv 0 (v := .slice ax na ca) rfl
    have hc1 := (HB.out.ext hX1).cellv 1 (v := .slice bx nb cb) rfl
    go_wp2_with fail
    refine (C28.out _ hE1).mono ?_
    rintro e w2 ⟨a2, c2, rfl, hT2, hX2⟩
    have hE2 := hE1.trans' hX2
    have hT1 := hT1.ext hX2
    go_wp2_with fail
    refine (f19_c _ _ _ _ _ _ K K _ hT1 hT2 rfl rfl hkl hkl Hkc.out Hkc.out).mono ?_
    rintro e w3 ⟨rfl, hX3⟩
    rw [sameT_rfl]
    have hE3 := hE2.trans' hX3
    go_wp2_with fail
    refine (f14_c _).mono ?_
    rintro e w4 ⟨rfl, hX4⟩
    have hE4 := hE3.trans' hX4
    go_wp2_with fail
    go_ret
    exact ⟨rfl, hE4⟩
  · cases hw1 : wideB t
    · have d1 : (decide (50 < na) || decide (50 < nb)) = true := by simp [hw1] at hw; simp; omega
      rw [hw1] at C13
      clear hw hw1
      go_enter Try.func5, Try.ntmps5
      go_wp2_with fail
      generalize w.alloc (.cells #[.slice ax na ca, .slice bx nb cb] 33) = w0 at *
      go_wp2_with (first | (go_at_call 13; refine C13.out.mono ?_; rintro e w' ⟨rfl, rfl⟩) | (go_at_call 20; refine (C20.out _).mono ?_; rintro e w' ⟨rfl, rfl⟩))
      refine (f14_c _).mono ?_
      rintro e w4 ⟨rfl, hX4⟩
      go_wp2_with fail
      go_ret
      exact ⟨rfl, hE0.trans' hX4⟩
    · rw [hw1] at C13
      clear hw hw1
      go_enter Try.func5, Try.ntmps5
      go_wp2_with fail
      generalize w.alloc (.cells #[.slice ax na ca, .slice bx nb cb] 33) = w0 at *
      go_wp2_with (first | (go_at_call 13; refine C13.out.mono ?_; rintro e w' ⟨rfl, rfl⟩) | (go_at_call 20; refine (C20.out _).mono ?_; rintro e w' ⟨rfl, rfl⟩))
      refine (f14_c _).mono ?_
      rintro e w4 ⟨rfl, hX4⟩
      go_wp2_with fail
      go_ret
      exact ⟨rfl, hE0.trans' hX4⟩

end Go.Proofs.Ytaidoaggmllcfaa
