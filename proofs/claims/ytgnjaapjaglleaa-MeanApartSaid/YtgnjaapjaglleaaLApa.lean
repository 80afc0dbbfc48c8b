/- MeanApart: the law's walk. -/
import Derived.Test.YtgnjaapjaglleaaT10
namespace Go.Proofs.Ytgnjaapjaglleaa
open Go.RowKit
attribute [local go_sem] GW.cell

set_option maxHeartbeats 4000000 in
theorem lawApa (w : World) (a : Option Addr) (n c : Nat) (l : List Atom) (hl : Atoms w a l) (hn : l.length = n) (b : Option Addr) (k d : Nat) (m : List Atom) (hm : Atoms w b m) (hk : m.length = k) (kind : Int) :
    Calls Try.prog 5 #[.slice a n c, .slice b k d, .int .i64 kind] w fun e w' => e = .returned (.bool true) ∧ Ext w w' := by
  subst hn hk
  go_enter Try.func5, Try.ntmps5
  go_wp2_with fail
  refine (f17_c _ _ _ _).mono ?_
  rintro e w1 ⟨rfl, rfl⟩
  by_cases h1 : 100 < l.length
  · rw [decide_eq_true (show 100 < (l.length : Int) by omega)]
    go_wp2_with fail
    refine (f18_c _).mono ?_
    rintro e w1 ⟨rfl, hE⟩
    go_wp2_with fail
    go_ret
    exact ⟨rfl, hE⟩
  rw [decide_eq_false (show ¬ 100 < (l.length : Int) by omega)]
  go_wp2_with fail
  refine (f17_c _ _ _ _).mono ?_
  rintro e w1 ⟨rfl, rfl⟩
  by_cases h2 : 100 < m.length
  · rw [decide_eq_true (show 100 < (m.length : Int) by omega)]
    go_wp2_with fail
    refine (f18_c _).mono ?_
    rintro e w1 ⟨rfl, hE⟩
    go_wp2_with fail
    go_ret
    exact ⟨rfl, hE⟩
  rw [decide_eq_false (show ¬ 100 < (m.length : Int) by omega)]
  have hlen : l.length ≤ 140737488355328 := by omega
  have hlen2 : m.length ≤ 140737488355328 := by omega
  go_wp2_with fail
  refine (f30_c a b l.length c m.length d l m kind _ hl rfl hlen hm rfl hlen2).mono ?_
  rintro e w1 ⟨rfl, hE1⟩
  go_wp2_with fail
  refine (f31_c a b l.length c m.length d l m kind _ (hl.ext hE1) rfl hlen (hm.ext hE1) rfl hlen2).mono ?_
  rintro e w2 ⟨rfl, hE2⟩
  have hE2 := hE1.trans' hE2
  by_cases h0 : apartErr l m kind = 0
  · obtain ⟨s1, s2⟩ := apart_symm h0
    obtain ⟨s3, s4⟩ := apart_self h0
    have hp := fun hne : l ≠ m => apart_pos h0 hne
    have hbd := apart_bd (l := l) (m := m) kind
    have f1 := Lib.hid (fun W (h : Atoms W a l) (h' : Atoms W b m) => f30_c b a m.length d l.length c m l kind W h' rfl hlen2 h rfl hlen)
    have f2 := Lib.hid (fun W (h : Atoms W a l) => f30_c a a l.length c l.length c l l kind W h rfl hlen h rfl hlen)
    rw [s1, s2] at f1
    rw [s3, s4] at f2
    rw [h0]
    have Hp := Lib.hid hp
    clear s1 s2 s3 s4 hp h0
    generalize apartV l m kind = V at *
    have hV : (V != V) = false := by simp
    have hV2 : (V == V) = true := by simp
    go_wp2_with fail
    refine (f1.out _ (hl.ext hE2) (hm.ext hE2)).mono ?_
    rintro e w3 ⟨rfl, hE3⟩
    have hE3 := hE2.trans' hE3
    go_wp2_with fail
    refine (f2.out _ (hl.ext hE3)).mono ?_
    rintro e w4 ⟨rfl, hE4⟩
    have hE4 := hE3.trans' hE4
    clear f1 f2
    by_cases hv : 0 < V
    · have hd : decide (0 < V) = true := by simpa using hv
      go_wp2_with fail
      refine (f18_c _).mono ?_
      rintro e w9 ⟨rfl, hE9⟩
      go_wp2_with fail
      go_ret
      exact ⟨rfl, hE4.trans' hE9⟩
    · have hd : decide (0 < V) = false := by simpa using hv
      have hlm : l = m := Classical.byContradiction fun hne => hv (Hp.out hne)
      have H21 := Lib.hid (f21_c a b l.length m.length c d l m w4 (hl.ext hE4) (hm.ext hE4) rfl rfl hlen hlen2)
      rw [decide_eq_true hlm] at H21
      clear hlm Hp
      go_wp2_with fail
      refine H21.out.mono ?_
      rintro e w5 ⟨rfl, hE5⟩
      have hE5 := hE4.trans' hE5
      go_wp2_with fail
      refine (f18_c _).mono ?_
      rintro e w9 ⟨rfl, hE9⟩
      go_wp2_with fail
      go_ret
      exact ⟨rfl, hE5.trans' hE9⟩
  · have hb : (apartErr l m kind != 0) = true := by simp [h0]
    clear h0
    generalize apartV l m kind = V at *
    generalize apartErr l m kind = E at *
    have hV : (V != V) = false := by simp
    have hEE : (E != E) = false := by simp
    go_wp2_with fail
    refine (f18_c _).mono ?_
    rintro e w9 ⟨rfl, hE9⟩
    go_wp2_with fail
    go_ret
    exact ⟨rfl, hE2.trans' hE9⟩
end Go.Proofs.Ytgnjaapjaglleaa
