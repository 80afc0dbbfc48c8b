/- MeanLists: the law's walk. -/
import Derived.Test.YtgnjaapjaglleaaT19
import Derived.Test.YtgnjaapjaglleaaT12
namespace Go.Proofs.Ytgnjaapjaglleaa
open Go.RowKit
attribute [local go_sem] GW.cell

theorem f21_eq (a b : Option Addr) (n m c d : Nat) (l : List Atom) (w : World) (hl : Atoms w a l) (hk : Atoms w b l) (hn : l.length = n) (hm : l.length = m) (hn1 : n ≤ 140737488355328) :
    Calls Try.prog 21 #[.slice a n c, .slice b m d] w fun e w' => e = .returned (.bool true) ∧ Ext w w' :=
  (f21_c a b n m c d l l w hl hk hn hm hn1 (by omega)).mono fun e w' h => by simpa using h
theorem unitsV_len (m : List Atom) : (unitsV m).length ≤ 1000 := by
  unfold unitsV
  split
  · rename_i h
    obtain ⟨h1, h2⟩ := unitsErr_ok h
    have := units_len (fine_atoms h1)
    omega
  · simp
set_option maxRecDepth 20000 in
set_option maxHeartbeats 8000000 in
theorem lawLis (w : World) (a : Option Addr) (n c : Nat) (l : List (List Atom)) (hl : Loads w a l) (hn : l.length = n) (hlx : n ≤ 9223372036854775807) (b : Option Addr) (k d : Nat) (m : List Atom) (hm : Atoms w b m) (hk : m.length = k) :
    Calls Try.prog 13 #[.slice a n c, .slice b k d] w fun e w' => e = .returned (.bool true) ∧ Ext w w' := by
  subst hn hk
  go_enter Try.func13, Try.ntmps13
  go_wp2_with fail
  refine (f32_c a l.length c l _ hl rfl hlx).mono ?_
  rintro e w0 ⟨rfl, hE0⟩
  rcases Bool.eq_false_or_eq_true (longB l) with h1 | h1
  · rw [h1]
    go_wp2_with fail
    refine (f18_c _).mono ?_
    rintro e w9 ⟨rfl, hE9⟩
    go_wp2_with fail
    go_ret
    exact ⟨rfl, hE0.trans' hE9⟩
  obtain ⟨q1, q2⟩ := longB_no h1
  rw [h1]
  go_wp2_with fail
  refine (f17_c _ _ _ _).mono ?_
  rintro e w1 ⟨rfl, rfl⟩
  by_cases h2 : 100 < m.length
  · rw [decide_eq_true (show 100 < (m.length : Int) by omega)]
    go_wp2_with fail
    refine (f18_c _).mono ?_
    rintro e w9 ⟨rfl, hE9⟩
    go_wp2_with fail
    go_ret
    exact ⟨rfl, hE0.trans' hE9⟩
  rw [decide_eq_false (show ¬ 100 < (m.length : Int) by omega)]
  have hlen2 : m.length ≤ 140737488355328 := by omega
  have hlen : l.length ≤ 140737488355328 := by omega
  have Hin : Hid (∀ j, (hj : j < l.length) → l[j].length ≤ 140737488355328) := Lib.hid (fun j hj => by have := q2 j hj; omega)
  clear q2 h1
  go_wp2_with fail
  refine (f45_c b m.length d m _ (hm.ext hE0) rfl hlen2).mono ?_
  rintro e w1 ⟨a1, c1, rfl, hA, hX1⟩
  have hE1 := hE0.trans' hX1
  go_wp2_with fail
  refine (f46_c b m.length d m _ (hm.ext hE1) rfl hlen2).mono ?_
  rintro e w2 ⟨a2, c2, rfl, hB, hX2⟩
  have hE2 := hE1.trans' hX2
  have hA := hA.ext hX2
  have hul := unitsV_len m
  have v1 : (loadsErr l != loadsErr l) = false := by simp
  have v2 : (valAtoms m != valAtoms m) = false := by simp
  have v3 : (unitsErr m != unitsErr m) = false := by simp
  have HC47 := Lib.hid (fun W (hW : Loads W a l) => f47_c a l.length c l W hW rfl hlen Hin.out)
  have HC48 := Lib.hid (fun W (hW : Loads W a l) => f48_c a l.length c l W hW rfl hlen Hin.out)
  go_wp2_with fail
  refine (HC47.out _ (hl.ext hE2)).mono ?_
  rintro e w3 ⟨rfl, hX3⟩
  have hE3 := hE2.trans' hX3
  have hA := hA.ext hX3
  have hB := hB.ext hX3
  go_wp2_with fail
  refine (HC48.out _ (hl.ext hE3)).mono ?_
  rintro e w4 ⟨rfl, hX4⟩
  have hE4 := hE3.trans' hX4
  have hA := hA.ext hX4
  have hB := hB.ext hX4
  go_wp2_with fail
  refine (f49_c b m.length d m _ (hm.ext hE4) rfl hlen2).mono ?_
  rintro e w5 ⟨rfl, hX5⟩
  have hE5 := hE4.trans' hX5
  have hA := hA.ext hX5
  have hB := hB.ext hX5
  go_wp2_with fail
  refine (f50_c b m.length d m _ (hm.ext hE5) rfl hlen2).mono ?_
  rintro e w6 ⟨rfl, hX6⟩
  have hE6 := hE5.trans' hX6
  have hA := hA.ext hX6
  have hB := hB.ext hX6
  go_wp2_with fail
  refine (f44_same a1 a2 (unitsV m).length (unitsV m).length c1 c2 (unitsV m) w6 hA hB rfl rfl (by omega)).mono ?_
  rintro e w7 ⟨rfl, hX7⟩
  have hE7 := hE6.trans' hX7
  have hA := hA.ext hX7
  clear hB HC47 HC48
  by_cases h0 : unitsErr m = 0
  case neg =>
    have hb : (unitsErr m != 0) = true := by simp [h0]
    clear h0
    generalize unitsErr m = E at *
    go_wp2_with fail
    refine (f18_c _).mono ?_
    rintro e w99 ⟨rfl, hE99⟩
    go_wp2_with fail
    go_ret
    exact ⟨rfl, hE7.trans' hE99⟩
  obtain ⟨r1, r2⟩ := back_said h0
  have hV : unitsV m = unitsL m := by unfold unitsV; rw [if_pos h0]
  rw [h0]
  rw [hV] at hA hul ⊢
  have C := f42_c a1 (unitsL m).length c1 (unitsL m) w7 hA rfl (by omega)
  rw [r1, r2] at C
  clear r1 r2 hV h0 v1 v2 v3
  go_wp2_with fail
  refine C.mono ?_
  clear C
  rintro e w8 ⟨v8, rfl, hrow, hX8⟩
  obtain ⟨a8, c8, rfl, hA8⟩ := atoms_of_row hrow
  clear hrow
  have hE8 := hE7.trans' hX8
  go_wp2_with fail
  refine (f21_eq a8 b m.length m.length c8 d m w8 hA8 (hm.ext hE8) rfl rfl (by omega)).mono ?_
  rintro e w10 ⟨rfl, hX10⟩
  have hE10 := hE8.trans' hX10
  go_wp2_with fail
  refine (f18_c _).mono ?_
  rintro e w99 ⟨rfl, hE99⟩
  go_wp2_with fail
  go_ret
  exact ⟨rfl, hE10.trans' hE99⟩
end Go.Proofs.Ytgnjaapjaglleaa
