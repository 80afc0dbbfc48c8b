/- Contracts of layer 6: Cost, of the program and of the reference. -/
import Derived.Test.YtaidoaggmllcfaaT23
namespace Go.Proofs.Ytaidoaggmllcfaa
open Go.RowKit
attribute [local go_sem] GW.cell

def costB (u t : Tbl) : Bool := tabB 0 99 u && sizedB u.length (row u 0).length 0 150000 t
def costV (u t : Tbl) : Int := if costB u t then spTo u t (row u 0).length u.length else 0
theorem costV_bad {u t : Tbl} (h : costB u t = false) : costV u t = 0 := by unfold costV; rw [h]; rfl
theorem costV_ok {u t : Tbl} (h : costB u t = true) : costV u t = spTo u t (row u 0).length u.length := by unfold costV; rw [if_pos h]
theorem sized_ok {n m : Nat} {lo hi : Int} {t : Tbl} (h : sizedB n m lo hi t = true) (n1 : 1 ≤ n) (n5 : n ≤ 5) (m1 : 1 ≤ m) (m5 : m ≤ 5) : TOk n m lo hi t := by
  simp only [sizedB, Bool.and_eq_true, decide_eq_true_eq] at h
  refine ⟨n1, n5, m1, m5, h.1, fun i hi => ?_, fun i j hi hj => ?_⟩
  · rw [row_at (by omega)]; exact (rowsB_at h.2 (by omega)).1
  · have hr := rowsB_at h.2 (k := i) (by omega)
    have := okRow_at hr.2 (k := j) (by omega)
    unfold tg; rw [row_at (by omega)]; exact this
theorem sized_of {n m : Nat} {lo hi : Int} {t : Tbl} (h : TOk n m lo hi t) : sizedB n m lo hi t = true := by
  have h1 := tabB_of h
  have h2 := h.cols 0 (by have := h.n1; omega)
  simp only [tabB, Bool.and_eq_true, decide_eq_true_eq] at h1
  simp only [sizedB, Bool.and_eq_true, decide_eq_true_eq]
  rw [h2] at h1
  exact ⟨h.len, h1.2.2.2.2⟩
theorem costB_no1 {u t : Tbl} (h : tabB 0 99 u = false) : costB u t = false := by unfold costB; rw [h]; rfl
theorem costB_no2 {u t : Tbl} (h : sizedB u.length (row u 0).length 0 150000 t = false) : costB u t = false := by unfold costB; rw [h, Bool.and_false]
theorem costB_yes {u t : Tbl} (h1 : tabB 0 99 u = true) (h : sizedB u.length (row u 0).length 0 150000 t = true) : costB u t = true := by unfold costB; rw [h1, h]; rfl
def RetIE (v e : Int) (w : World) (e' : Ending) (w' : World) : Prop := e' = .returned (.tuple #[.int .i64 v, .int .i64 e]) ∧ Ext w w'

set_option maxHeartbeats 4000000 in
theorem f35_c (a b : Option Addr) (n k c d : Nat) (u t : Tbl) (w : World) (hu : Table w a u) (hn : u.length = n) (hlen : n ≤ 1000000) (hin : ∀ j, (hj : j < u.length) → u[j].length ≤ 1000000) (ht : Table w b t) (hk : t.length = k) (hlen2 : k ≤ 1000000) (hin2 : ∀ j, (hj : j < t.length) → t[j].length ≤ 1000000) :
    Calls Try.prog 35 #[.slice a n c, .slice b k d] w (RetIE (costV u t) (errOf (costB u t)) w) := by
  subst hn hk
  have C1 := f56_c a u.length c u w hu rfl hlen hin
  unfold valT at C1
  cases h1 : tabB 0 99 u with
  | false =>
    have hb := costB_no1 (t := t) h1
    rw [costV_bad hb, hb]
    rw [h1] at C1
    have C1 := Lib.hid C1
    clear h1 hb
    go_enter Try.func35, Try.ntmps35
    go_wp2_with fail
    refine C1.out.mono ?_
    rintro e w1 ⟨rfl, hE1⟩
    go_wp2_with fail
    go_ret2
    exact ⟨rfl, hE1⟩
  | true =>
    have H0 := tabB_ok h1
    rw [h1] at C1
    have C1 := Lib.hid C1
    have hn1 := H0.n1
    have hn5 := H0.n5
    have hm1 := H0.m1
    have hm5 := H0.m5
    obtain ⟨b0, o0, a0, c0, e0, hb0, hc0, hI0⟩ := hu 0 (by omega)
    subst e0
    rw [← row_at (by omega)] at hc0
    simp only [Nat.add_zero] at hc0
    have C2 := fun W (h : Ext w W) => f63_c b t.length d t u.length (row u 0).length 150000 W (ht.ext h) rfl hlen2 hin2
    cases h2 : sizedB u.length (row u 0).length 0 150000 t with
    | false =>
      have hb := costB_no2 h2
      rw [costV_bad hb, hb]
      rw [h2] at C2
      have C2 := Lib.hid C2
      clear h1 h2 hb H0 hI0
      generalize (row u 0).length = M at *
      go_enter Try.func35, Try.ntmps35
      go_wp2_with fail
      refine C1.out.mono ?_
      rintro e w1 ⟨rfl, hE1⟩
      have hc0 := (hE1.cell' hb0).trans hc0
      go_wp2_with fail
      refine (C2.out _ hE1).mono ?_
      rintro e w2 ⟨rfl, hE2⟩
      go_wp2_with fail
      go_ret2
      exact ⟨rfl, hE1.trans' hE2⟩
    | true =>
      have hb := costB_yes h1 h2
      have HT := sized_ok h2 hn1 hn5 hm1 hm5
      rw [costV_ok hb, hb]
      rw [h2] at C2
      have C2 := Lib.hid C2
      have hk := HT.len
      have C3 := fun W (h : Ext w W) => f84_c (some ⟨b0, o0, none⟩) b u.length (row u 0).length c d u t W (hu.ext h) (ht.ext h) H0 HT
      rw [hk] at C2
      have C3 := Lib.hid C3
      clear h1 h2 hb H0 HT hI0
      rw [hk]
      generalize spTo u t (row u 0).length u.length = V at *
      generalize (row u 0).length = M at *
      clear hk
      go_enter Try.func35, Try.ntmps35
      go_wp2_with fail
      refine C1.out.mono ?_
      rintro e w1 ⟨rfl, hE1⟩
      have hc0 := (hE1.cell' hb0).trans hc0
      go_wp2_with fail
      refine (C2.out _ hE1).mono ?_
      rintro e w2 ⟨rfl, hE2⟩
      go_wp2_with fail
      refine (C3.out _ (hE1.trans' hE2)).mono ?_
      rintro e w3 ⟨rfl, rfl⟩
      go_wp2_with fail
      go_ret2
      exact ⟨rfl, hE1.trans' hE2⟩

set_option maxHeartbeats 4000000 in
theorem f53_c (a b : Option Addr) (n k c d : Nat) (u t : Tbl) (w : World) (hu : Table w a u) (hn : u.length = n) (hlen : n ≤ 1000000) (hin : ∀ j, (hj : j < u.length) → u[j].length ≤ 1000000) (ht : Table w b t) (hk : t.length = k) (hlen2 : k ≤ 1000000) (hin2 : ∀ j, (hj : j < t.length) → t[j].length ≤ 1000000) :
    Calls Try.prog 53 #[.slice a n c, .slice b k d] w (RetIE (costV u t) (errOf (costB u t)) w) := by
  subst hn hk
  have C1 := f59_c a u.length c u w hu rfl hlen hin
  unfold valT at C1
  cases h1 : tabB 0 99 u with
  | false =>
    have hb := costB_no1 (t := t) h1
    rw [costV_bad hb, hb]
    rw [h1] at C1
    have C1 := Lib.hid C1
    clear h1 hb
    go_enter Try.func53, Try.ntmps53
    go_wp2_with fail
    refine C1.out.mono ?_
    rintro e w1 ⟨rfl, hE1⟩
    go_wp2_with fail
    go_ret2
    exact ⟨rfl, hE1⟩
  | true =>
    have H0 := tabB_ok h1
    rw [h1] at C1
    have C1 := Lib.hid C1
    have hn1 := H0.n1
    have hn5 := H0.n5
    have hm1 := H0.m1
    have hm5 := H0.m5
    obtain ⟨b0, o0, a0, c0, e0, hb0, hc0, hI0⟩ := hu 0 (by omega)
    subst e0
    rw [← row_at (by omega)] at hc0
    simp only [Nat.add_zero] at hc0
    have C2 := fun W (h : Ext w W) => f64_c b t.length d t 0 150000 W (ht.ext h) rfl hlen2 hin2
    cases h2 : tabB 0 150000 t with
    | false =>
      have hs : sizedB u.length (row u 0).length 0 150000 t = false := by
        rw [← Bool.not_eq_true]; intro h
        rw [tabB_of (sized_ok h hn1 hn5 hm1 hm5)] at h2; cases h2
      have hb := costB_no2 hs
      rw [costV_bad hb, hb]
      rw [h2] at C2
      have C2 := Lib.hid C2
      clear h1 h2 hb H0 hI0 hs
      generalize (row u 0).length = M at *
      go_enter Try.func53, Try.ntmps53
      go_wp2_with fail
      refine C1.out.mono ?_
      rintro e w1 ⟨rfl, hE1⟩
      go_wp2_with fail
      refine wp_region_ext (by kernel_rfl) (by kernel_rfl) ?_
      repeat (go_big_quiet_step ((go_at_call 64; exact quiet_ext (C2.out _ (hE1.trans' (GW.ext _))))))
      refine wpQuiet_nil ?_
      intro w2 hE2
      go_wp2_with fail
      go_ret2
      exact ⟨rfl, hE1.trans' hE2⟩
    | true =>
      have HT0 := tabB_ok h2
      have hk1 := HT0.n1
      obtain ⟨b1, o1, a1, c1, e1, hb1, hc1, hI1⟩ := ht 0 (by omega)
      subst e1
      rw [← row_at (by omega)] at hc1
      simp only [Nat.add_zero] at hc1
      rw [h2] at C2
      have C2 := Lib.hid C2
      by_cases g1 : t.length = u.length
      case neg =>
        have hs : sizedB u.length (row u 0).length 0 150000 t = false := by
          rw [← Bool.not_eq_true]; intro h
          exact g1 (sized_ok h hn1 hn5 hm1 hm5).len
        have hb := costB_no2 hs
        rw [costV_bad hb, hb]
        have d1 : ((t.length : Int) != (u.length : Int)) = true := by simp; omega
        clear h1 h2 hb H0 HT0 hI0 hI1 hs g1
        generalize (row u 0).length = M at *
        generalize (row t 0).length = M2 at *
        go_enter Try.func53, Try.ntmps53
        go_wp2_with fail
        refine C1.out.mono ?_
        rintro e w1 ⟨rfl, hE1⟩
        go_wp2_with fail
        refine wp_region_ext (by kernel_rfl) (by kernel_rfl) ?_
        repeat (go_big_quiet_step ((go_at_call 64; exact quiet_ext (C2.out _ (hE1.trans' (GW.ext _))))))
        refine wpQuiet_nil ?_
        intro w2 hE2
        go_wp2_with fail
        go_ret2
        exact ⟨rfl, hE1.trans' hE2⟩
      have d1 : ((t.length : Int) != (u.length : Int)) = false := by simp; omega
      by_cases g2 : (row t 0).length = (row u 0).length
      case neg =>
        have hs : sizedB u.length (row u 0).length 0 150000 t = false := by
          rw [← Bool.not_eq_true]; intro h
          exact g2 ((sized_ok h hn1 hn5 hm1 hm5).cols 0 (by omega))
        have hb := costB_no2 hs
        rw [costV_bad hb, hb]
        have d2 : (((row t 0).length : Int) != ((row u 0).length : Int)) = true := by simp; omega
        clear h1 h2 hb H0 HT0 hI0 hI1 hs g1 g2
        generalize (row u 0).length = M at *
        generalize (row t 0).length = M2 at *
        go_enter Try.func53, Try.ntmps53
        go_wp2_with fail
        refine C1.out.mono ?_
        rintro e w1 ⟨rfl, hE1⟩
        have hc0 := (hE1.cell' hb0).trans hc0
        have hc1 := (hE1.cell' hb1).trans hc1
        have hb0 := Nat.lt_of_lt_of_le hb0 hE1.size
        have hb1 := Nat.lt_of_lt_of_le hb1 hE1.size
        go_wp2_with fail
        refine wp_region_ext (by kernel_rfl) (by kernel_rfl) ?_
        repeat (go_big_quiet_step ((go_at_call 64; exact quiet_ext (C2.out _ (hE1.trans' (GW.ext _))))))
        refine wpQuiet_nil ?_
        intro w2 hE2
        clear hc0 hc1
        go_wp2_with fail
        go_ret2
        exact ⟨rfl, hE1.trans' hE2⟩
      have d2 : (((row t 0).length : Int) != ((row u 0).length : Int)) = false := by simp; omega
      have HT : TOk u.length (row u 0).length 0 150000 t := by rw [← g1, ← g2]; exact HT0
      have hb := costB_yes h1 (sized_of HT)
      rw [costV_ok hb, hb]
      have C3 := fun W (h : Ext w W) => f98_c (some ⟨b0, o0, none⟩) (some ⟨b1, o1, none⟩) u.length (row u 0).length c d u t W (hu.ext h) (ht.ext h) H0 HT
      have C3 := Lib.hid C3
      rw [g1] at C2 d1 ⊢
      generalize spTo u t (row u 0).length u.length = V at *
      clear h1 h2 hb H0 HT0 HT hI0 hI1 g1 g2
      generalize (row u 0).length = M at *
      generalize (row t 0).length = M2 at *
      go_enter Try.func53, Try.ntmps53
      go_wp2_with fail
      refine C1.out.mono ?_
      rintro e w1 ⟨rfl, hE1⟩
      have hc0 := (hE1.cell' hb0).trans hc0
      have hc1 := (hE1.cell' hb1).trans hc1
      have hb0 := Nat.lt_of_lt_of_le hb0 hE1.size
      have hb1 := Nat.lt_of_lt_of_le hb1 hE1.size
      go_wp2_with fail
      refine wp_region_ext (by kernel_rfl) (by kernel_rfl) ?_
      repeat (go_big_quiet_step ((go_at_call 64; exact quiet_ext (C2.out _ (hE1.trans' (GW.ext _))))))
      refine wpQuiet_nil ?_
      intro w2 hE2
      clear hc0 hc1
      go_wp2_with fail
      refine (C3.out _ (hE1.trans' hE2)).mono ?_
      rintro e w3 ⟨rfl, hE3⟩
      go_wp2_with fail
      go_ret2
      exact ⟨rfl, hE1.trans' (hE2.trans' hE3)⟩
end Go.Proofs.Ytaidoaggmllcfaa
