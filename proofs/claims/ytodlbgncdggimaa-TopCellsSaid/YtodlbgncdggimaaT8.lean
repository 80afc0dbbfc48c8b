/- Contracts: field, Cells, SameInts. -/
import Derived.Test.YtodlbgncdggimaaT7
namespace Go.Proofs.Ytodlbgncdggimaa
open Go.RowKit
attribute [local go_sem] GW.cell

def okField (l : List Site) (x y : Int) : Bool := okSites l && (withinB x 1 12 && withinB y 1 12)

/-- The ints that a slice value owns, read. -/
theorem ints_of_row {w : World} {base n : Nat} {v : Value} {l : List Int} (h : w.ownsRow base 3 1 v n (l.map (.int .i64))) : ∃ a c, v = .slice a l.length c ∧ Ints w a l := by
  have hn : l.length = n := by have := h.1; simpa using this
  rcases h.2 with ⟨rfl, h0⟩ | ⟨g, cap, cur, rfl, hb, hg, h1, h2, h3, h4⟩
  · exact ⟨none, 0, by rw [hn, h0], fun j hj => by omega⟩
  · refine ⟨_, cap, by rw [hn], fun j hj => ⟨g, 0, rfl, (Array.getElem?_eq_some_iff.1 hg).1, ?_⟩⟩
    have hc := h.cells (g := g) rfl j (.int .i64 (l[j]?.getD 0)) (by simp [hj])
    have e : Addr.add ⟨g, 0, none⟩ j = ⟨g, 0 + j, none⟩ := by
      unfold Addr.add
      split
      · rename_i h; simp_all
      · rfl
    rw [e] at hc
    exact hc

/-- what a call hands back that makes a list and an error -/
def RetInts (L : List Int) (err : Int) (w : World) (e : Ending) (w' : World) : Prop :=
  ∃ a c, e = .returned (.tuple #[.slice a L.length c, .int .i64 err]) ∧ Ints w' a L ∧ Ext w w'

set_option maxHeartbeats 1000000 in
theorem f55_c (a : Option Addr) (n c : Nat) (l : List Site) (x y : Int) (w : World) (hl : Sites w a l) (hn : l.length = n) (hlen : n ≤ 140737488355328) :
    Calls Try.prog 55 #[.slice a n c, .int .i64 x, .int .i64 y] w fun e w' => e = .returned (.int .i64 (errOf (okField l x y))) ∧ Ext w w' := by
  by_cases hok : okSites l = true
  · have he : errOf (okSites l) = 0 := by rw [hok]; rfl
    have Hok := Lib.hid hok
    clear hok
    go_enter Try.func55, Try.ntmps55
    go_wp2_with fail
    have hc := f22_c a n c l w hl hn hlen
    rw [he] at hc
    refine hc.mono ?_
    rintro e w1 ⟨rfl, hE⟩
    clear hc he
    go_wp2_with fail
    all_goals go_ret
    all_goals refine ⟨ret_int ?_, hE⟩
    all_goals simp [errOf, okField, Hok.out, withinB]
    all_goals omega
  · have hok' : okSites l = false := by simpa using hok
    have he : errOf (okSites l) = 1 := by rw [hok']; rfl
    have Hok := Lib.hid hok'
    clear hok hok'
    go_enter Try.func55, Try.ntmps55
    go_wp2_with fail
    have hc := f22_c a n c l w hl hn hlen
    rw [he] at hc
    refine hc.mono ?_
    rintro e w1 ⟨rfl, hE⟩
    clear hc he
    go_wp2_with fail
    go_ret
    exact ⟨ret_int (by simp [errOf, okField, Hok.out]), hE⟩

set_option maxHeartbeats 1000000 in
theorem f19_c (a b : Option Addr) (n m c d : Nat) (l k : List Int) (w : World) (hl : Ints w a l) (hk : Ints w b k) (hn : l.length = n) (hm : k.length = m) (hn1 : n ≤ 140737488355328) (hm1 : m ≤ 140737488355328) :
    Calls Try.prog 19 #[.slice a n c, .slice b m d] w fun e w' => e = .returned (.bool (decide (l = k))) ∧ Ext w w' := by
  subst hn hm
  by_cases hlen : l.length = k.length
  · have hne : ((l.length : Int) != (k.length : Int)) = false := by simp [hlen]
    have Hlen := Lib.hid hlen
    clear hlen
    go_enter Try.func19, Try.ntmps19
    go_wp2_with fail
    go_loopw [5] (fun i wr => ∃ j : Nat, j ≤ l.length ∧ i = .int .i64 j ∧ Ext w wr ∧ Hid (∀ q, q < j → l[q]?.getD 0 = k[q]?.getD 0)) (fun i _ => l.length - (intOf i).toNat)
    case atStart => exact ⟨0, by omega, rfl, Below.refl _ _, fun q hq => by omega⟩
    case round =>
      obtain ⟨j, hj, rfl, hE, H⟩ := hrel
      by_cases hlt : j < l.length
      · have hlt2 : j < k.length := by rw [← Hlen.out]; exact hlt
        obtain ⟨b1, o1, rfl, hb1, hc1⟩ := hl.ext hE j hlt
        obtain ⟨b2, o2, rfl, hb2, hc2⟩ := hk.ext hE j hlt2
        rw [List.getElem?_eq_getElem hlt, Option.getD_some] at hc1
        rw [List.getElem?_eq_getElem hlt2, Option.getD_some] at hc2
        go_wp2_with fail
        refine wp_region_ext (by kernel_rfl) (by kernel_rfl) ?_
        repeat (go_big_quiet_step (fail))
        refine wpQuiet_nil ?_
        intro w1 hE1
        by_cases he : l[j] = k[j]
        · have hb : (l[j] != k[j]) = false := by simp [he]
          have He := Lib.hid he
          clear he
          go_wp2_with fail
          go_roundw
          case rel =>
            refine ⟨j + 1, by omega, by go_num, hE.trans' hE1, fun q hq => ?_⟩
            by_cases e : q = j
            · subst e; rw [List.getElem?_eq_getElem hlt, List.getElem?_eq_getElem hlt2]; exact He.out
            · exact H.out q (by omega)
          case measure => simp [intOf]; omega
        · have hb : (l[j] != k[j]) = true := by simp [he]
          have He := Lib.hid he
          clear he
          go_wp2_with fail
          go_ret
          exact ⟨ret_bool (by symm; rw [decide_eq_false_iff_not]; intro e; subst e; exact He.out rfl), hE.trans' hE1⟩
      · obtain rfl : j = l.length := by omega
        go_wp2_with fail
        go_ret
        refine ⟨ret_bool ?_, hE⟩
        symm; rw [decide_eq_true_eq]
        refine List.ext_getElem Hlen.out fun q h1 h2 => ?_
        have := H.out q h1
        rw [List.getElem?_eq_getElem h1, List.getElem?_eq_getElem h2] at this
        simpa using this
  · have hne : ((l.length : Int) != (k.length : Int)) = true := by simp; omega
    have Hlen := Lib.hid hlen
    clear hlen
    go_enter Try.func19, Try.ntmps19
    go_wp2_with fail
    go_ret
    exact ⟨ret_bool (by symm; rw [decide_eq_false_iff_not]; intro e; subst e; exact Hlen.out rfl), Below.refl _ _⟩

def cellsL (l : List Site) (x y : Int) : List Int := if okField l x y then owns l x.toNat (x.toNat * y.toNat) else []

theorem okField_bd {l : List Site} {x y : Int} (h : okField l x y = true) : okSites l = true ∧ 1 ≤ x ∧ x ≤ 12 ∧ 1 ≤ y ∧ y ≤ 12 := by
  simp [okField, withinB] at h
  exact ⟨h.1, h.2.1.1, h.2.1.2, h.2.2.1, h.2.2.2⟩

set_option maxHeartbeats 1000000 in
theorem f18_c (a : Option Addr) (n c : Nat) (l : List Site) (x y : Int) (w : World) (hl : Sites w a l) (hn : l.length = n) (hlen : n ≤ 140737488355328) :
    Calls Try.prog 18 #[.slice a n c, .int .i64 x, .int .i64 y] w (RetInts (cellsL l x y) (errOf (okField l x y)) w) := by
  by_cases hok : okField l x y = true
  · have he : errOf (okField l x y) = 0 := by rw [hok]; rfl
    obtain ⟨h0, h1, h2, h3, h4⟩ := okField_bd hok
    have hL : cellsL l x y = owns l x.toNat (x.toNat * y.toNat) := by rw [cellsL, hok]; rfl
    obtain ⟨wd, rfl⟩ := Int.eq_ofNat_of_zero_le (a := x) (by omega)
    obtain ⟨ht, rfl⟩ := Int.eq_ofNat_of_zero_le (a := y) (by omega)
    rw [hL, he]
    have hc := f55_c a n c l wd ht w hl hn hlen
    rw [he] at hc
    have Hc := Lib.hid hc
    have H0 := Lib.hid h0
    clear hc he hok h0 hL
    go_enter Try.func18, Try.ntmps18
    go_wp2_with fail
    refine Hc.out.mono ?_
    rintro e w1 ⟨rfl, hE⟩
    clear Hc
    go_wp2_with fail
    refine (f56_c a n c l wd ht w1 (hl.ext hE) hn H0.out (by omega) (by omega) (by omega) (by omega)).mono ?_
    rintro e w2 ⟨v, rfl, hr, hE2⟩
    obtain ⟨ad, cp, hv, hI⟩ := ints_of_row hr
    have Hv := Lib.hid hv
    clear hv
    go_wp2_with fail
    go_ret2
    exact ⟨ad, cp, by rw [Hv.out]; rfl, hI, hE.trans' hE2⟩
  · have hok' : okField l x y = false := by simpa using hok
    have he : errOf (okField l x y) = 1 := by rw [hok']; rfl
    have hL : cellsL l x y = [] := by rw [cellsL, hok']; rfl
    rw [hL, he]
    have hc := f55_c a n c l x y w hl hn hlen
    rw [he] at hc
    have Hc := Lib.hid hc
    clear hc he hok hok' hL
    go_enter Try.func18, Try.ntmps18
    go_wp2_with fail
    refine Hc.out.mono ?_
    rintro e w1 ⟨rfl, hE⟩
    clear Hc
    go_wp2_with fail
    go_ret2
    exact ⟨none, 0, rfl, fun j hj => by simp at hj, hE⟩
end Go.Proofs.Ytodlbgncdggimaa
