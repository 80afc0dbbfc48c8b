/- MeanNearest: the law's walk. -/
import Derived.Test.YtgnjaapjaglleaaT12
namespace Go.Proofs.Ytgnjaapjaglleaa
open Go.RowKit
attribute [local go_sem] GW.cell

set_option maxHeartbeats 4000000 in
theorem lawNea (w : World) (a : Option Addr) (n c : Nat) (l : List (List Atom)) (hl : Loads w a l) (hn : l.length = n) (hlx : n ≤ 9223372036854775807) (b : Option Addr) (k d : Nat) (m : List Atom) (hm : Atoms w b m) (hk : m.length = k) (kind : Int) :
    Calls Try.prog 7 #[.slice a n c, .slice b k d, .int .i64 kind] w fun e w' => e = .returned (.bool true) ∧ Ext w w' := by
  subst hn hk
  go_enter Try.func7, Try.ntmps7
  go_wp2_with fail
  refine (f32_c a l.length c l _ hl rfl hlx).mono ?_
  rintro e w0 ⟨rfl, hE0⟩
  rcases Bool.eq_false_or_eq_true (longB l) with h1 | h1
  · rw [h1]
    go_wp2_with fail
    refine (f18_c _).mono ?_
    rintro e w9 ⟨rfl, hE9⟩
    go_wp2_with fail
    go_ret
    exact ⟨rfl, hE0.trans' hE9⟩
  obtain ⟨q1, q2⟩ := longB_no h1
  rw [h1]
  go_wp2_with fail
  refine (f17_c _ _ _ _).mono ?_
  rintro e w1 ⟨rfl, rfl⟩
  by_cases h2 : 100 < m.length
  · rw [decide_eq_true (show 100 < (m.length : Int) by omega)]
    go_wp2_with fail
    refine (f18_c _).mono ?_
    rintro e w9 ⟨rfl, hE9⟩
    go_wp2_with fail
    go_ret
    exact ⟨rfl, hE0.trans' hE9⟩
  rw [decide_eq_false (show ¬ 100 < (m.length : Int) by omega)]
  have hlen : l.length ≤ 140737488355328 := by omega
  have hlen2 : m.length ≤ 140737488355328 := by omega
  have Hin : Hid (∀ j, (hj : j < l.length) → l[j].length ≤ 140737488355328) := Lib.hid (fun j hj => by have := q2 j hj; omega)
  clear q2 h1
  go_wp2_with fail
  refine (f33_c a b l.length c m.length d l m kind _ (hl.ext hE0) rfl hlen Hin.out (hm.ext hE0) rfl hlen2).mono ?_
  rintro e w1 ⟨rfl, hE1⟩
  have hE1 := hE0.trans' hE1
  go_wp2_with fail
  refine (f34_c a b l.length c m.length d l m kind _ (hl.ext hE1) rfl hlen Hin.out (hm.ext hE1) rfl hlen2).mono ?_
  rintro e w2 ⟨rfl, hE2⟩
  have hE2 := hE1.trans' hE2
  generalize nearV l m kind = V at *
  generalize nearErr l m kind = E at *
  have hV : (V == V) = true := by simp
  have hEE : (E == E) = true := by simp
  go_wp2_with fail
  refine (f18_c _).mono ?_
  rintro e w9 ⟨rfl, hE9⟩
  go_wp2_with fail
  go_ret
  exact ⟨rfl, hE2.trans' hE9⟩
end Go.Proofs.Ytgnjaapjaglleaa
