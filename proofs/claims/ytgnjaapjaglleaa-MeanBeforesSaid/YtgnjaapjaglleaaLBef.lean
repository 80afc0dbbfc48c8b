/- MeanBefores: the law's walk. -/
import Derived.Test.YtgnjaapjaglleaaT10
namespace Go.Proofs.Ytgnjaapjaglleaa
open Go.RowKit
attribute [local go_sem] GW.cell

set_option maxHeartbeats 4000000 in
theorem lawBef (w : World) (a : Option Addr) (n c : Nat) (l : List Atom) (hl : Atoms w a l) (hn : l.length = n) (b : Option Addr) (k d : Nat) (m : List Atom) (hm : Atoms w b m) (hk : m.length = k) :
    Calls Try.prog 3 #[.slice a n c, .slice b k d] w fun e w' => e = .returned (.bool true) ∧ Ext w w' := by
  subst hn hk
  go_enter Try.func3, Try.ntmps3
  go_wp2_with fail
  refine (f17_c _ _ _ _).mono ?_
  rintro e w1 ⟨rfl, rfl⟩
  by_cases h1 : 100 < l.length
  · rw [decide_eq_true (show 100 < (l.length : Int) by omega)]
    go_wp2_with fail
    refine (f18_c _).mono ?_
    rintro e w1 ⟨rfl, hE⟩
    go_wp2_with fail
    go_ret
    exact ⟨rfl, hE⟩
  rw [decide_eq_false (show ¬ 100 < (l.length : Int) by omega)]
  go_wp2_with fail
  refine (f17_c _ _ _ _).mono ?_
  rintro e w1 ⟨rfl, rfl⟩
  by_cases h2 : 100 < m.length
  · rw [decide_eq_true (show 100 < (m.length : Int) by omega)]
    go_wp2_with fail
    refine (f18_c _).mono ?_
    rintro e w1 ⟨rfl, hE⟩
    go_wp2_with fail
    go_ret
    exact ⟨rfl, hE⟩
  rw [decide_eq_false (show ¬ 100 < (m.length : Int) by omega)]
  have hlen : l.length ≤ 140737488355328 := by omega
  have hlen2 : m.length ≤ 140737488355328 := by omega
  go_wp2_with fail
  refine (f19_c a b l.length c m.length d l m _ hl rfl hlen hm rfl hlen2).mono ?_
  rintro e w1 ⟨rfl, hE1⟩
  go_wp2_with fail
  refine (f20_c a b l.length c m.length d l m _ (hl.ext hE1) rfl hlen (hm.ext hE1) rfl hlen2).mono ?_
  rintro e w2 ⟨rfl, hE2⟩
  have hE2 := hE1.trans' hE2
  by_cases h0 : pairErr l m = 0
  · have hs := pair_symm h0
    have hself := pair_self h0
    have hb1 := before_self h0
    have hb2 := before_both h0
    have f1 := Lib.hid (fun W (h : Atoms W a l) (h' : Atoms W b m) => f19_c b a m.length d l.length c m l W h' rfl hlen2 h rfl hlen)
    have f2 := Lib.hid (fun W (h : Atoms W a l) => f19_c a a l.length c l.length c l l W h rfl hlen h rfl hlen)
    rw [hs] at f1
    rw [hself, hb1] at f2
    rw [h0]
    have Hb2 := Lib.hid hb2
    clear hs hself hb1 hb2 h0
    generalize beforeB l m = B1 at *
    generalize beforeB m l = B2 at *
    have hB : (B1 != B1) = false := by simp
    go_wp2_with fail
    refine (f1.out _ (hl.ext hE2) (hm.ext hE2)).mono ?_
    rintro e w3 ⟨rfl, hE3⟩
    have hE3 := hE2.trans' hE3
    go_wp2_with fail
    refine (f2.out _ (hl.ext hE3)).mono ?_
    rintro e w4 ⟨rfl, hE4⟩
    have hE4 := hE3.trans' hE4
    have H21 := Lib.hid (f21_c a b l.length m.length c d l m w4 (hl.ext hE4) (hm.ext hE4) rfl rfl hlen hlen2)
    rw [← Hb2.out] at H21
    clear Hb2 f1 f2
    cases B1 <;> cases B2
    all_goals
      simp only [Bool.and_false, Bool.and_true] at H21
      go_wp2_with fail
      refine H21.out.mono ?_
      rintro e w5 ⟨rfl, hE5⟩
      go_wp2_with fail
      refine (f18_c _).mono ?_
      rintro e w6 ⟨rfl, hE6⟩
      go_wp2_with fail
      go_ret
      exact ⟨rfl, hE4.trans' (hE5.trans' hE6)⟩
  · have hb : (pairErr l m != 0) = true := by simp [h0]
    clear h0
    generalize beforeB l m = B1 at *
    generalize pairErr l m = E at *
    have hB : (B1 != B1) = false := by simp
    have hEE : (E != E) = false := by simp
    go_wp2_with fail
    refine (f18_c _).mono ?_
    rintro e w3 ⟨rfl, hE3⟩
    go_wp2_with fail
    go_ret
    exact ⟨rfl, hE2.trans' hE3⟩
end Go.Proofs.Ytgnjaapjaglleaa
