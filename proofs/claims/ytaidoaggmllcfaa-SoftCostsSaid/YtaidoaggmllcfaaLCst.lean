/- The law of costs, walked. -/
import Derived.Test.YtaidoaggmllcfaaT25
import Derived.Test.YtaidoaggmllcfaaLSof
namespace Go.Proofs.Ytaidoaggmllcfaa
open Go.RowKit
attribute [local go_sem] GW.cell

theorem softV_small (x y : List Int) (t : Tbl) (s r : Int) : (softV x y t s r).length ≤ 1000000 ∧ ∀ j, (hj : j < (softV x y t s r).length) → (softV x y t s r)[j].length ≤ 1000000 := by
  by_cases h : softErr x y t s r = 0
  · obtain ⟨l1, l2, l3, l4, l5, l6, l7, l8⟩ := soft_law h
    rw [← l6]
    exact repairV_small x y _
  · have : softV x y t s r = [] := by unfold softV; rw [if_neg h]
    rw [this]; simp
theorem softV_whole {x y : List Int} {t : Tbl} {s r : Int} (h : softErr x y t s r = 0) : grErr x y (softV x y t s r) = 0 ∧ wholeB x y (softV x y t s r) = true := by
  obtain ⟨l1, l2, l3, l4, l5, l6, l7, l8⟩ := soft_law h
  rw [← l6]
  exact ⟨(repair_law l5).1, (repair_law l5).2.1⟩

set_option maxRecDepth 20000 in
set_option maxHeartbeats 8000000 in
theorem costs_walk (w : World) (ax : Option Addr) (na ca : Nat) (x : List Int) (hx : Ints w ax x) (hxn : x.length = na) (bx : Option Addr) (nb cb : Nat) (y : List Int) (hy : Ints w bx y) (hyn : y.length = nb)
    (a : Option Addr) (len cap : Nat) (t : Tbl) (hl : Table w a t) (hn : t.length = len) (hlen : len ≤ 9223372036854775807)
    (tb : Option Addr) (lent capt : Nat) (tt : Tbl) (hlt : Table w tb tt) (hnt : tt.length = lent) (hlent : lent ≤ 9223372036854775807) (s r : Int) :
    Calls Try.prog 12 #[.agg #[.slice ax na ca, .slice bx nb cb, .slice a len cap], .agg #[.slice tb lent capt, .int .i64 s, .int .i64 r]] w fun e w' => e = .returned (.bool true) ∧ Below w.heap.size w w' := by
  have hEa := ext_alloc w (.cells #[.slice ax na ca, .slice bx nb cb, .slice a len cap] 51)
  have hEb := ext_alloc (w.alloc (.cells #[.slice ax na ca, .slice bx nb cb, .slice a len cap] 51)) (.cells #[.slice tb lent capt, .int .i64 s, .int .i64 r] 53)
  have hE0 := hEa.trans' hEb
  have HA := Lib.hid ((BlkC.new w #[.slice ax na ca, .slice bx nb cb, .slice a len cap] 51).ext hEb)
  have HB := Lib.hid (BlkC.new (w.alloc (.cells #[.slice ax na ca, .slice bx nb cb, .slice a len cap] 51)) #[.slice tb lent capt, .int .i64 s, .int .i64 r] 53)
  simp only [World.size_alloc] at HB
  have C32 := f32_c ax bx a na ca nb cb len cap t _ (hl.ext hE0) hn hlen
  have C13 := fun W (h : Ext w W) => f13_c tb lent capt tt W (hlt.ext h) hnt hlent
  have ka0 := HA.out.cellv 0 (v := .slice ax na ca) rfl
  have ka1 := HA.out.cellv 1 (v := .slice bx nb cb) rfl
  have ka2 := HA.out.cellv 2 (v := .slice a len cap) rfl
  have kb0 := HB.out.cellv 0 (v := .slice tb lent capt) rfl
  have lt1 := HA.out.lt
  have lt2 := HB.out.lt
  cases hw : longB na nb t
  case true =>
    rw [hw] at C32
    have C32 := Lib.hid C32
    clear hw C13
    go_enter Try.func12, Try.ntmps12
    go_wp2_with fail
    generalize (w.alloc (.cells #[.slice ax na ca, .slice bx nb cb, .slice a len cap] 51)).alloc (.cells #[.slice tb lent capt, .int .i64 s, .int .i64 r] 53) = w0 at *
    go_wp2_with fail
    refine C32.out.mono ?_
    rintro e w1 ⟨rfl, hE1⟩
    go_wp2_with fail
    refine (f14_c _).mono ?_
    rintro e w2 ⟨rfl, hE2⟩
    go_wp2_with fail
    go_ret
    exact ⟨rfl, hE0.trans' (hE1.trans' hE2)⟩
  rw [hw] at C32
  have C32 := Lib.hid C32
  cases hw2 : wideB tt
  case true =>
    rw [hw2] at C13
    have C13 := Lib.hid C13
    clear hw hw2
    go_enter Try.func12, Try.ntmps12
    go_wp2_with fail
    generalize (w.alloc (.cells #[.slice ax na ca, .slice bx nb cb, .slice a len cap] 51)).alloc (.cells #[.slice tb lent capt, .int .i64 s, .int .i64 r] 53) = w0 at *
    go_wp2_with fail
    refine C32.out.mono ?_
    rintro e w1 ⟨rfl, hE1⟩
    have kb0 := (HB.out.ext hE1).cellv 0 (v := .slice tb lent capt) rfl
    go_wp2_with fail
    refine (C13.out _ (hE0.trans' hE1)).mono ?_
    rintro e w' ⟨rfl, rfl⟩
    go_wp2_with fail
    refine (f14_c _).mono ?_
    rintro e w2 ⟨rfl, hE2⟩
    go_wp2_with fail
    go_ret
    exact ⟨rfl, hE0.trans' (hE1.trans' hE2)⟩
  rw [hw2] at C13
  have C13 := Lib.hid C13
  simp only [longB, Bool.or_eq_false_iff, decide_eq_false_iff_not] at hw
  obtain ⟨hna, hnb, hw1⟩ := hw
  obtain ⟨h1, hin⟩ := wide_in hw1
  obtain ⟨h2, hin2⟩ := wide_in hw2
  have C35 := fun W (h : Ext w W) => f35_c a tb len lent cap capt t tt W (hl.ext h) hn (by omega) hin (hlt.ext h) hnt (by omega) hin2
  have C53 := fun W (h : Ext w W) => f53_c a tb len lent cap capt t tt W (hl.ext h) hn (by omega) hin (hlt.ext h) hnt (by omega) hin2
  have C33 := fun W (h : Ext w W) => f33_c ax bx a na nb len cap ca cb x y t s r W (hx.ext h) hxn (by omega) (hy.ext h) hyn (by omega) (hl.ext h) hn (by omega) hin
  have C54 := fun W (h : Ext w W) => f54_c ax bx a na nb len cap ca cb x y t s r W (hx.ext h) hxn (by omega) (hy.ext h) hyn (by omega) (hl.ext h) hn (by omega) hin
  obtain ⟨hr1, hr2⟩ := softV_small x y t s r
  have C19 := Lib.hid (fun A1 A2 c1 c2 W (h1 : Table W A1 (softV x y t s r)) (h2 : Table W A2 (softV x y t s r)) => f19_c A1 A2 (softV x y t s r).length c1 (softV x y t s r).length c2 (softV x y t s r) (softV x y t s r) W h1 h2 rfl rfl hr1 hr1 hr2 hr2)
  rw [sameT_rfl] at C19
  have C44 := fun A c W (h1 : Table W A (softV x y t s r)) (h : Ext w W) => f44_c ax bx A na nb (softV x y t s r).length c ca cb x y _ W (hx.ext h) hxn (by omega) (hy.ext h) hyn (by omega) h1 rfl hr1 hr2
  have hfin : (softErr x y t s r != 0) = true ∨ ((softErr x y t s r != 0) = false ∧ grErr x y (softV x y t s r) = 0 ∧ wholeB x y (softV x y t s r) = true) := by
    by_cases he : softErr x y t s r = 0
    · exact .inr ⟨by simp [he], softV_whole he⟩
    · exact .inl (by simp [he])
  generalize softV x y t s r = V at *
  generalize softErr x y t s r = E at *
  generalize costV t tt = CV at *
  generalize errOf (costB t tt) = CE at *
  generalize grErr x y V = G at *
  generalize wholeB x y V = WB at *
  have C35 := Lib.hid C35
  have C53 := Lib.hid C53
  have C33 := Lib.hid C33
  have C54 := Lib.hid C54
  have C44 := Lib.hid C44
  have e1 : (CV != CV) = false := by simp
  have e2 : (CE != CE) = false := by simp
  have e3 : (E != E) = false := by simp
  have Hfin := Lib.hid hfin
  clear hna hnb hw1 hw2 h1 h2 hin hin2 hn hnt hxn hyn hr1 hr2 hfin
  go_enter Try.func12, Try.ntmps12
  go_wp2_with fail
  generalize (w.alloc (.cells #[.slice ax na ca, .slice bx nb cb, .slice a len cap] 51)).alloc (.cells #[.slice tb lent capt, .int .i64 s, .int .i64 r] 53) = w0 at *
  go_wp2_with fail
  refine C32.out.mono ?_
  rintro e w1 ⟨rfl, hE1⟩
  have kb0 := (HB.out.ext hE1).cellv 0 (v := .slice tb lent capt) rfl
  go_wp2_with fail
  refine (C13.out _ (hE0.trans' hE1)).mono ?_
  rintro e w' ⟨rfl, rfl⟩
  clear ka0 ka1 ka2 kb0 C32 C13
  have ka2 := (HA.out.ext hE1).cellv 2 (v := .slice a len cap) rfl
  have kb0 := (HB.out.ext hE1).cellv 0 (v := .slice tb lent capt) rfl
  go_wp2_with fail
  refine (C35.out _ (hE0.trans' hE1)).mono ?_
  rintro e w2 ⟨rfl, hX2⟩
  have hE2 := hE1.trans' hX2
  clear ka2 kb0 C35 hE1 hX2
  have ka2 := (HA.out.ext hE2).cellv 2 (v := .slice a len cap) rfl
  have kb0 := (HB.out.ext hE2).cellv 0 (v := .slice tb lent capt) rfl
  go_wp2_with fail
  refine (C53.out _ (hE0.trans' hE2)).mono ?_
  rintro e w3 ⟨rfl, hX3⟩
  have hE3 := hE2.trans' hX3
  clear ka2 kb0 C53 hE2 hX3
  have ka0 := (HA.out.ext hE3).cellv 0 (v := .slice ax na ca) rfl
  have ka1 := (HA.out.ext hE3).cellv 1 (v := .slice bx nb cb) rfl
  have ka2 := (HA.out.ext hE3).cellv 2 (v := .slice a len cap) rfl
  have kb1 := (HB.out.ext hE3).cellv 1 (v := .int .i64 s) rfl
  have kb2 := (HB.out.ext hE3).cellv 2 (v := .int .i64 r) rfl
  go_wp2_with fail
  refine (C33.out _ (hE0.trans' hE3)).mono ?_
  rintro e w4 hR
  obtain ⟨a4, c4, rfl, hT4, hX4⟩ := hR.open_
  have HT4 := Lib.hid hT4
  have hE4 := hE3.trans' hX4
  clear hR hT4 ka0 ka1 ka2 kb1 kb2 C33 hE3 hX4
  have ka0 := (HA.out.ext hE4).cellv 0 (v := .slice ax na ca) rfl
  have ka1 := (HA.out.ext hE4).cellv 1 (v := .slice bx nb cb) rfl
  have ka2 := (HA.out.ext hE4).cellv 2 (v := .slice a len cap) rfl
  have kb1 := (HB.out.ext hE4).cellv 1 (v := .int .i64 s) rfl
  have kb2 := (HB.out.ext hE4).cellv 2 (v := .int .i64 r) rfl
  go_wp2_with fail
  refine (C54.out _ (hE0.trans' hE4)).mono ?_
  rintro e w5 hR
  obtain ⟨a5, c5, rfl, hT5, hX5⟩ := hR.open_
  have HT5 := Lib.hid hT5
  have HT4 := Lib.hid (HT4.out.ext hX5)
  have hE5 := hE4.trans' hX5
  clear hR hT5 ka0 ka1 ka2 kb1 kb2 C54 hE4 hX5
  go_wp2_with fail
  refine (C19.out _ _ _ _ _ HT4.out HT5.out).mono ?_
  rintro e w6 ⟨rfl, hX6⟩
  have hE6 := hE5.trans' hX6
  have HT4 := Lib.hid (HT4.out.ext hX6)
  clear C19 HT5 hE5 hX6
  have ka0 := (HA.out.ext hE6).cellv 0 (v := .slice ax na ca) rfl
  have ka1 := (HA.out.ext hE6).cellv 1 (v := .slice bx nb cb) rfl
  go_wp2_with fail
  refine (C44.out _ _ _ HT4.out (hE0.trans' hE6)).mono ?_
  rintro e w7 ⟨rfl, hX7⟩
  have hE7 := hE6.trans' hX7
  clear C44 HT4 hE6 hX7 ka0 ka1
  rcases Hfin.out with h | ⟨h, rfl, rfl⟩
  · go_wp2_with fail
    refine (f14_c _).mono ?_
    rintro e w8 ⟨rfl, hE8⟩
    go_wp2_with fail
    go_ret
    exact ⟨rfl, hE0.trans' (hE7.trans' hE8)⟩
  · go_wp2_with fail
    refine (f14_c _).mono ?_
    rintro e w8 ⟨rfl, hE8⟩
    go_wp2_with fail
    go_ret
    exact ⟨rfl, hE0.trans' (hE7.trans' hE8)⟩
end Go.Proofs.Ytaidoaggmllcfaa
