/- MeanTriangles: the law's walk. -/
import Derived.Test.YtgnjaapjaglleaaT10
namespace Go.Proofs.Ytgnjaapjaglleaa
open Go.RowKit
attribute [local go_sem] GW.cell

set_option maxHeartbeats 4000000 in
theorem lawTri (w : World) (a : Option Addr) (n c : Nat) (l : List Atom) (hl : Atoms w a l) (hn : l.length = n) (b : Option Addr) (k d : Nat) (m : List Atom) (hm : Atoms w b m) (hk : m.length = k) (a3 : Option Addr) (n3 c3 : Nat) (t : List Atom) (ht : Atoms w a3 t) (hn3 : t.length = n3) :
    Calls Try.prog 6 #[.slice a n c, .slice b k d, .slice a3 n3 c3] w fun e w' => e = .returned (.bool true) ∧ Ext w w' := by
  subst hn hk hn3
  go_enter Try.func6, Try.ntmps6
  go_wp2_with fail
  refine (f17_c _ _ _ _).mono ?_
  rintro e w1 ⟨rfl, rfl⟩
  by_cases h1 : 100 < l.length
  · rw [decide_eq_true (show 100 < (l.length : Int) by omega)]
    go_wp2_with fail
    refine (f18_c _).mono ?_
    rintro e w1 ⟨rfl, hE⟩
    go_wp2_with fail
    go_ret
    exact ⟨rfl, hE⟩
  rw [decide_eq_false (show ¬ 100 < (l.length : Int) by omega)]
  go_wp2_with fail
  refine (f17_c _ _ _ _).mono ?_
  rintro e w1 ⟨rfl, rfl⟩
  by_cases h2 : 100 < m.length
  · rw [decide_eq_true (show 100 < (m.length : Int) by omega)]
    go_wp2_with fail
    refine (f18_c _).mono ?_
    rintro e w1 ⟨rfl, hE⟩
    go_wp2_with fail
    go_ret
    exact ⟨rfl, hE⟩
  rw [decide_eq_false (show ¬ 100 < (m.length : Int) by omega)]
  go_wp2_with fail
  refine (f17_c _ _ _ _).mono ?_
  rintro e w1 ⟨rfl, rfl⟩
  by_cases h3 : 100 < t.length
  · rw [decide_eq_true (show 100 < (t.length : Int) by omega)]
    go_wp2_with fail
    refine (f18_c _).mono ?_
    rintro e w1 ⟨rfl, hE⟩
    go_wp2_with fail
    go_ret
    exact ⟨rfl, hE⟩
  rw [decide_eq_false (show ¬ 100 < (t.length : Int) by omega)]
  have hlen : l.length ≤ 140737488355328 := by omega
  have hlen2 : m.length ≤ 140737488355328 := by omega
  have hlen3 : t.length ≤ 140737488355328 := by omega
  go_wp2_with fail
  refine (f30_c a a3 l.length c t.length c3 l t 1 _ hl rfl hlen ht rfl hlen3).mono ?_
  rintro e w1 ⟨rfl, hE1⟩
  go_wp2_with fail
  refine (f30_c a b l.length c m.length d l m 1 _ (hl.ext hE1) rfl hlen (hm.ext hE1) rfl hlen2).mono ?_
  rintro e w2 ⟨rfl, hE2⟩
  have hE2 := hE1.trans' hE2
  go_wp2_with fail
  refine (f30_c b a3 m.length d t.length c3 m t 1 _ (hm.ext hE2) rfl hlen2 (ht.ext hE2) rfl hlen3).mono ?_
  rintro e w3 ⟨rfl, hE3⟩
  have hE3 := hE2.trans' hE3
  have b1 := apart_bd (l := l) (m := t) 1
  have b2 := apart_bd (l := l) (m := m) 1
  have b3 := apart_bd (l := m) (m := t) 1
  by_cases h1 : apartErr l t 1 = 0
  · by_cases h2 : apartErr l m 1 = 0
    · by_cases h3 : apartErr m t 1 = 0
      · have htri := apart_tri h1 h2 h3
        rw [h1, h2, h3]
        clear h1 h2 h3
        generalize apartV l t 1 = A at *
        generalize apartV l m 1 = B at *
        generalize apartV m t 1 = C at *
        have hd : decide (A ≤ B + C) = true := by simpa using htri
        go_wp2_with fail
        refine (f18_c _).mono ?_
        rintro e w9 ⟨rfl, hE9⟩
        go_wp2_with fail
        go_ret
        exact ⟨rfl, hE3.trans' hE9⟩
      · have hb : (apartErr m t 1 != 0) = true := by simp [h3]
        rw [h1, h2]
        clear h1 h2 h3
        go_wp2_with fail
        refine (f18_c _).mono ?_
        rintro e w9 ⟨rfl, hE9⟩
        go_wp2_with fail
        go_ret
        exact ⟨rfl, hE3.trans' hE9⟩
    · have hb : (apartErr l m 1 != 0) = true := by simp [h2]
      rw [h1]
      clear h1 h2
      go_wp2_with fail
      refine (f18_c _).mono ?_
      rintro e w9 ⟨rfl, hE9⟩
      go_wp2_with fail
      go_ret
      exact ⟨rfl, hE3.trans' hE9⟩
  · have hb : (apartErr l t 1 != 0) = true := by simp [h1]
    clear h1
    go_wp2_with fail
    refine (f18_c _).mono ?_
    rintro e w9 ⟨rfl, hE9⟩
    go_wp2_with fail
    go_ret
    exact ⟨rfl, hE3.trans' hE9⟩
end Go.Proofs.Ytgnjaapjaglleaa
