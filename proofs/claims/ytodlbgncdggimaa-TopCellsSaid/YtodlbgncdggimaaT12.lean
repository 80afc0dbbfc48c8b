/- The power of a site, in the program and in the reference. -/
import Derived.Test.YtodlbgncdggimaaT11
namespace Go.Proofs.Ytodlbgncdggimaa
open Go.RowKit
attribute [local go_sem] GW.cell

set_option maxHeartbeats 1000000 in
theorem f61_c (s : Site) (x y : Int) (w : World) (h : Near s x y) :
    Calls Try.prog 61 #[sv s, .int .i64 x, .int .i64 y] w fun e w' => e = .returned (.int .i64 (sq s x y)) ∧ Ext w w' := by
  obtain ⟨hs, h1, h2, h3, h4⟩ := h
  have hb := okSite_bd hs
  have ha := mul_self_bd (x - s.x) (by omega) (by omega)
  have hb' := mul_self_bd (y - s.y) (by omega) (by omega)
  go_enter Try.func61, Try.ntmps61
  go_wp2
  go_ret
  exact ⟨rfl, (Below.refl _ w).alloc (Nat.le_refl _) _⟩

/-- is i the number of a site of l? -/
def isNo (l : List Site) (i : Int) : Bool := withinB i 0 ((l.length : Int) - 1)
def siteErr (l : List Site) (i : Int) : Int := if okSites l then (if isNo l i then 0 else 4) else 1
def powErr (l : List Site) (i x y : Int) : Int := if okSites l then (if isNo l i then (if withinB x (-1000) 1000 && withinB y (-1000) 1000 then 0 else 1) else 4) else 1
def powVal (l : List Site) (i x y : Int) : Int := if okSites l && (isNo l i && (withinB x (-1000) 1000 && withinB y (-1000) 1000)) then pow (l[i.toNat]?.getD default) x y else 0

theorem isNo_at {l : List Site} {i : Int} (h : isNo l i = true) : ∃ k : Nat, i = k ∧ k < l.length := by
  have := withinB_iff.1 h
  obtain ⟨k, rfl⟩ := Int.eq_ofNat_of_zero_le this.1
  exact ⟨k, rfl, by omega⟩

set_option maxHeartbeats 1000000 in
theorem f59_c (a : Option Addr) (n c : Nat) (l : List Site) (i : Int) (w : World) (hl : Sites w a l) (hn : l.length = n) (hlen : n ≤ 140737488355328) :
    Calls Try.prog 59 #[.slice a n c, .int .i64 i] w fun e w' => e = .returned (.int .i64 (siteErr l i)) ∧ w = w' := by
  subst hn
  have Hc := Lib.hid (f23_c a l.length c l w hl rfl hlen)
  by_cases hok : okSites l = true
  · rw [hok] at Hc
    by_cases hi : isNo l i = true
    · have Hok := Lib.hid hok
      clear hok
      have hi' : withinB i 0 ((l.length : Int) - 1) = true := hi
      clear hi
      have Hi := Lib.hid hi'
      go_enter Try.func59, Try.ntmps59
      go_wp2_with fail
      refine Hc.out.mono ?_
      rintro e w1 ⟨rfl, rfl⟩
      clear Hc
      unfold errOf
      go_wp2_with (go_at_call 60; refine (f60_c _ _ _ _).mono ?_; rintro e w' ⟨rfl, rfl⟩)
      go_ret
      exact ⟨ret_int (by rw [siteErr, Hok.out, show isNo l i = true from Hi.out]; rfl), rfl⟩
    · have hi' : withinB i 0 ((l.length : Int) - 1) = false := by simpa [isNo] using hi
      clear hi
      have Hok := Lib.hid hok
      clear hok
      have Hi := Lib.hid hi'
      go_enter Try.func59, Try.ntmps59
      go_wp2_with fail
      refine Hc.out.mono ?_
      rintro e w1 ⟨rfl, rfl⟩
      clear Hc
      unfold errOf
      go_wp2_with (go_at_call 60; refine (f60_c _ _ _ _).mono ?_; rintro e w' ⟨rfl, rfl⟩)
      go_ret
      exact ⟨ret_int (by rw [siteErr, Hok.out, show isNo l i = false from Hi.out]; rfl), rfl⟩
  · have hok' : okSites l = false := by simpa using hok
    rw [hok'] at Hc
    have Hok := Lib.hid hok'
    clear hok hok'
    go_enter Try.func59, Try.ntmps59
    go_wp2_with fail
    refine Hc.out.mono ?_
    rintro e w1 ⟨rfl, rfl⟩
    clear Hc
    unfold errOf
    go_wp2_with fail
    go_ret
    exact ⟨ret_int (by rw [siteErr, Hok.out]; rfl), rfl⟩

theorem siteErr_ok {l : List Site} {i : Int} (h : okSites l = true) (h2 : isNo l i = true) : siteErr l i = 0 := by rw [siteErr, h, h2]; rfl
theorem siteErr_no {l : List Site} {i : Int} (h : okSites l = true) (h2 : isNo l i = false) : siteErr l i = 4 := by rw [siteErr, h, h2]; rfl
theorem siteErr_bad {l : List Site} {i : Int} (h : okSites l = false) : siteErr l i = 1 := by rw [siteErr, h]; rfl

/-- what Power hands back -/
def RetPow (l : List Site) (i x y : Int) (w : World) (e : Ending) (w' : World) : Prop := e = .returned (.tuple #[.int .i64 (powVal l i x y), .int .i64 (powErr l i x y)]) ∧ Ext w w'

theorem retPow_bad {l : List Site} {i x y : Int} {w w' : World} (h : okSites l = false) (hE : Ext w w') : RetPow l i x y w (.returned (.tuple #[.int .i64 0, .int .i64 1])) w' := by
  unfold RetPow powVal powErr; rw [h]; exact ⟨rfl, hE⟩
theorem retPow_no {l : List Site} {i x y : Int} {w w' : World} (h : okSites l = true) (h2 : isNo l i = false) (hE : Ext w w') : RetPow l i x y w (.returned (.tuple #[.int .i64 0, .int .i64 4])) w' := by
  unfold RetPow powVal powErr; rw [h, h2]; exact ⟨rfl, hE⟩
theorem retPow_far {l : List Site} {i x y : Int} {w w' : World} (h : okSites l = true) (h2 : isNo l i = true) (h3 : (withinB x (-1000) 1000 && withinB y (-1000) 1000) = false) (hE : Ext w w') : RetPow l i x y w (.returned (.tuple #[.int .i64 0, .int .i64 1])) w' := by
  unfold RetPow powVal powErr; rw [h, h2, h3]; exact ⟨rfl, hE⟩
theorem retPow_ok {l : List Site} {k : Nat} {x y : Int} {w w' : World} (h : okSites l = true) (hk : k < l.length) (h3 : (withinB x (-1000) 1000 && withinB y (-1000) 1000) = true) (hE : Ext w w') : RetPow l k x y w (.returned (.tuple #[.int .i64 (pow l[k] x y), .int .i64 0])) w' := by
  have h2 : isNo l k = true := by rw [isNo, withinB_iff]; omega
  unfold RetPow powVal powErr
  rw [h, h2, h3]
  simp [hk, hE]

set_option maxHeartbeats 1000000 in
theorem f21_c (a : Option Addr) (n c : Nat) (l : List Site) (i x y : Int) (w : World) (hl : Sites w a l) (hn : l.length = n) (hlen : n ≤ 140737488355328) :
    Calls Try.prog 21 #[.slice a n c, .int .i64 i, .int .i64 x, .int .i64 y] w (RetPow l i x y w) := by
  subst hn
  have Hc := Lib.hid (f59_c a l.length c l i w hl rfl hlen)
  by_cases hok : okSites l = true
  · by_cases hi : isNo l i = true
    · rw [siteErr_ok hok hi] at Hc
      obtain ⟨k, rfl, hk⟩ := isNo_at hi
      have Hok := Lib.hid hok
      have Hi := Lib.hid hi
      clear hok hi
      cases h1 : withinB x (-1000) 1000 <;> cases h2 : withinB y (-1000) 1000
      case true.true =>
        have hx := withinB_iff.1 h1
        have hy := withinB_iff.1 h2
        obtain ⟨b, off, rfl, hb, hcx, hcy, hcw⟩ := hl k hk
        have hnear : Near l[k] x y := ⟨okSites_at Hok.out hk, hx.1, hx.2, hy.1, hy.2⟩
        have hb1 := sq_bd hnear
        have hb2 := okSite_bd hnear.1
        have Hn := Lib.hid hnear
        have H12 := Lib.hid (And.intro h1 h2)
        clear hnear
        go_enter Try.func21, Try.ntmps21
        go_wp2_with fail
        refine Hc.out.mono ?_
        rintro e w1 ⟨rfl, rfl⟩
        clear Hc
        go_wp2_with (go_at_call 60; refine (f60_c _ _ _ _).mono ?_; rintro e w' ⟨rfl, rfl⟩)
        refine wp_region_ext (by kernel_rfl) (by kernel_rfl) ?_
        repeat (go_big_quiet_step ((go_at_call 61; exact quiet_ext (f61_c l[k] x y _ Hn.out))))
        refine wpQuiet_nil ?_
        intro w2 hE2
        go_wp2_with fail
        go_ret2
        exact retPow_ok Hok.out hk (by rw [H12.out.1, H12.out.2]; rfl) hE2
      all_goals
        have H12 := Lib.hid (And.intro h1 h2)
        go_enter Try.func21, Try.ntmps21
        go_wp2_with fail
        refine Hc.out.mono ?_
        rintro e w1 ⟨rfl, rfl⟩
        clear Hc
        go_wp2_with (go_at_call 60; refine (f60_c _ _ _ _).mono ?_; rintro e w' ⟨rfl, rfl⟩)
        go_ret2
        exact retPow_far Hok.out Hi.out (by rw [H12.out.1, H12.out.2]; rfl) (Below.refl _ _)
    · have hi' : isNo l i = false := by simpa using hi
      rw [siteErr_no hok hi'] at Hc
      have Hok := Lib.hid hok
      have Hi := Lib.hid hi'
      clear hok hi hi'
      go_enter Try.func21, Try.ntmps21
      go_wp2_with fail
      refine Hc.out.mono ?_
      rintro e w1 ⟨rfl, rfl⟩
      clear Hc
      go_wp2_with fail
      go_ret2
      exact retPow_no Hok.out Hi.out (Below.refl _ _)
  · have hok' : okSites l = false := by simpa using hok
    rw [siteErr_bad hok'] at Hc
    have Hok := Lib.hid hok'
    clear hok hok'
    go_enter Try.func21, Try.ntmps21
    go_wp2_with fail
    refine Hc.out.mono ?_
    rintro e w1 ⟨rfl, rfl⟩
    clear Hc
    go_wp2_with fail
    go_ret2
    exact retPow_bad Hok.out (Below.refl _ _)

set_option maxHeartbeats 1000000 in
theorem f20_c (a : Option Addr) (n c : Nat) (l : List Site) (i x y : Int) (w : World) (hl : Sites w a l) (hn : l.length = n) (hlen : n ≤ 140737488355328) :
    Calls Try.prog 20 #[.slice a n c, .int .i64 i, .int .i64 x, .int .i64 y] w (RetPow l i x y w) := by
  subst hn
  have Hc := Lib.hid (f22_c a l.length c l w hl rfl hlen)
  by_cases hok : okSites l = true
  · rw [hok] at Hc
    by_cases hi : isNo l i = true
    · obtain ⟨k, rfl, hk⟩ := isNo_at hi
      have Hok := Lib.hid hok
      have Hi := Lib.hid hi
      clear hok hi
      go_enter Try.func20, Try.ntmps20
      go_wp2_with fail
      refine Hc.out.mono ?_
      rintro e w1 ⟨rfl, hE1⟩
      clear Hc
      unfold errOf
      have hk' : ((k : Int) < 0) = False := by simp
      go_wp2_with fail
      refine (f57_c 1000 _ 2 2 [x, y] _ (ints_new2 _ _ _ _ _ (by simp)) (by rfl) (by omega) (by omega) (by omega)).mono ?_
      rintro e w2 ⟨rfl, hE2⟩
      have hE3 : Ext w w2 := hE1.trans' ((ext_alloc _ _).trans' hE2)
      by_cases hA : allIn 1000 [x, y] = true
      · have h12 : (withinB x (-1000) 1000 && withinB y (-1000) 1000) = true := by rw [← allIn2]; exact hA
        have H12 := Lib.hid h12
        have hb12 := h12
        simp only [Bool.and_eq_true] at hb12
        have hx := withinB_iff.1 hb12.1
        have hy := withinB_iff.1 hb12.2
        obtain ⟨b, off, rfl, hb, hcx, hcy, hcw⟩ := hl.ext hE3 k hk
        have hnear : Near l[k] x y := ⟨okSites_at Hok.out hk, hx.1, hx.2, hy.1, hy.2⟩
        have Hn := Lib.hid hnear
        clear hnear h12 hb12
        go_wp2_with fail
        refine (f58_c l[k] x y _ Hn.out).mono ?_
        rintro e w3 ⟨rfl, hE4⟩
        go_wp2_with fail
        go_ret2
        exact retPow_ok Hok.out hk H12.out (hE3.trans' hE4)
      · have hA' : allIn 1000 [x, y] = false := by simpa using hA
        have h12 : (withinB x (-1000) 1000 && withinB y (-1000) 1000) = false := by rw [← allIn2]; exact hA'
        have H12 := Lib.hid h12
        clear hA h12
        go_wp2_with fail
        go_ret2
        exact retPow_far Hok.out Hi.out H12.out hE3
    · have hi' : isNo l i = false := by simpa using hi
      have hbd : i < 0 ∨ (l.length : Int) ≤ i := by
        simp [isNo, withinB] at hi'
        omega
      have Hok := Lib.hid hok
      have Hi := Lib.hid hi'
      clear hok hi hi'
      by_cases h0 : i < 0
      · have d0 : decide (i < 0) = true := by simpa using h0
        go_enter Try.func20, Try.ntmps20
        go_wp2_with fail
        refine Hc.out.mono ?_
        rintro e w1 ⟨rfl, hE1⟩
        clear Hc
        unfold errOf
        go_wp2_with fail
        go_ret2
        exact retPow_no Hok.out Hi.out hE1
      · have d0 : decide (i < 0) = false := by simpa using h0
        have d1 : decide ((l.length : Int) ≤ i) = true := by simp; omega
        go_enter Try.func20, Try.ntmps20
        go_wp2_with fail
        refine Hc.out.mono ?_
        rintro e w1 ⟨rfl, hE1⟩
        clear Hc
        unfold errOf
        go_wp2_with fail
        go_ret2
        exact retPow_no Hok.out Hi.out hE1
  · have hok' : okSites l = false := by simpa using hok
    rw [hok'] at Hc
    have Hok := Lib.hid hok'
    clear hok hok'
    go_enter Try.func20, Try.ntmps20
    go_wp2_with fail
    refine Hc.out.mono ?_
    rintro e w1 ⟨rfl, hE1⟩
    clear Hc
    unfold errOf
    go_wp2_with fail
    go_ret2
    exact retPow_bad Hok.out hE1
end Go.Proofs.Ytodlbgncdggimaa
