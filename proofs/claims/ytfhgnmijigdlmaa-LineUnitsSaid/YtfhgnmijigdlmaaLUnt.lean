/- The unit's place, walked. -/
import Derived.Test.YtfhgnmijigdlmaaT26
namespace Go.Proofs.Ytfhgnmijigdlmaa
open Go.RowKit
attribute [local go_sem] GW.cell
theorem unit_between {l : List Atom} {x : Int} (h : plcErr l x = 0) : valLoad l = 0 ∧ bel l (plcV l x - 1) ≤ x ∧ x < bel l (plcV l x) ∧ -1000 ≤ plcV l x ∧ plcV l x ≤ 1000 := by
  have hv : valLoad l = 0 := by
    by_cases hv : valLoad l = 0
    · exact hv
    · rw [(plc_bad hv).1] at h; exact absurd h hv
  have hx : 0 ≤ x ∧ x < (unitsL l).length := by
    unfold plcErr at h
    rw [if_neg (by simpa using hv)] at h
    by_cases hx : 0 ≤ x ∧ x < (unitsL l).length
    · exact hx
    · rw [if_neg hx] at h; exact absurd h (by decide)
  have e : plcV l x = gi (unitsL l) x.toNat := by unfold plcV; rw [if_pos h]
  have hr : x.toNat < (unitsL l).length := by omega
  have r1 := rank_iff (load_pw' hv) (t := gi (unitsL l) x.toNat) hr
  have r2 := rank_iff (load_pw' hv) (t := gi (unitsL l) x.toNat - 1) hr
  have p1 := (load_asc hv).2 _ hr
  have c1 := r1.1 (Int.le_refl _)
  have c2 : ¬ x.toNat < (unitsL l).countP (fun z => decide (z ≤ gi (unitsL l) x.toNat - 1)) := fun h => by have := r2.2 h; omega
  rw [e, bel_cnt hv, bel_cnt hv]
  exact ⟨hv, by omega, by omega, p1.1, p1.2⟩
set_option maxRecDepth 20000 in
set_option maxHeartbeats 16000000 in
theorem units_walk (w : World) (a1 : Option Addr) (n1 c1 : Nat) (l1 : List Atom) (hl1 : Atoms w a1 l1) (hn1 : l1.length = n1) (x : Int) :
    Calls Try.prog 11 #[.slice a1 n1 c1, .int .i64 x] w fun e w' => e = .returned (.bool true) ∧ Below w.heap.size w w' := by
  cases hL : longB n1 0
  case true =>
    clear hn1
    go_enter Try.func11, Try.ntmps11
    go_wp2_with fail
    refine (f18_c _ _ _ _ _ _ _).mono ?_
    rintro e w' ⟨rfl, rfl⟩
    rw [hL]
    go_wp2_with fail
    refine (f19_c _).mono ?_
    rintro e w9 ⟨rfl, hE9⟩
    go_wp2_with fail
    go_ret
    exact ⟨rfl, hE9⟩
  obtain ⟨b1, b2⟩ := longB_no hL
  have hE0 : Ext w w := Below.refl _ _
  have C1 := fun W (h : Ext w W) => f41_c a1 n1 c1 l1 x W (hl1.ext h) hn1 (by omega)
  have C2 := fun W (h : Ext w W) => f42_c a1 n1 c1 l1 (plcV l1 x) W (hl1.ext h) hn1 (by omega)
  have C3 := fun W (h : Ext w W) => f42_c a1 n1 c1 l1 (plcV l1 x - 1) W (hl1.ext h) hn1 (by omega)
  by_cases he : plcErr l1 x = 0
  case neg =>
    have hb : (plcErr l1 x != 0) = true := by simp [he]
    have C1 := Lib.hid C1
    clear he hn1 C2 C3
    generalize plcV l1 x = V at *
    generalize plcErr l1 x = E at *
    go_enter Try.func11, Try.ntmps11
    go_wp2_with fail
    refine (f18_c _ _ _ _ _ _ _).mono ?_
    rintro e w' ⟨rfl, rfl⟩
    rw [hL]
    go_wp2_with fail
    refine (C1.out _ hE0).mono ?_
    rintro e w1 ⟨rfl, hX1⟩
    have hE1 := hE0.trans' hX1
    go_wp2_with fail
    refine (f19_c _).mono ?_
    rintro e w9 ⟨rfl, hE9⟩
    go_wp2_with fail
    go_ret
    exact ⟨rfl, hE1.trans' hE9⟩
  obtain ⟨v0, v1, v2, v3, v4⟩ := unit_between he
  rw [he] at C1
  have eb : ∀ t, belV l1 t = bel l1 t := fun t => by unfold belV; rw [if_pos v0]
  simp only [eb, v0] at C2 C3
  have C1 := Lib.hid C1
  have C2 := Lib.hid C2
  have C3 := Lib.hid C3
  clear he hn1 v0 eb
  generalize plcV l1 x = V at *
  generalize bel l1 (V - 1) = A at *
  generalize bel l1 V = B at *
  have w1 : IntKind.i64.wrap (V - 1) = V - 1 := IntWalk.i64_in _ (by omega)
  have d1 : decide (A ≤ x) = true := by simpa using v1
  have d2 : decide (x < B) = true := by simpa using v2
  go_enter Try.func11, Try.ntmps11
  go_wp2_with fail
  refine (f18_c _ _ _ _ _ _ _).mono ?_
  rintro e w' ⟨rfl, rfl⟩
  rw [hL]
  go_wp2_with fail
  refine (C1.out _ hE0).mono ?_
  rintro e w1 ⟨rfl, hX1⟩
  have hE1 := hE0.trans' hX1
  go_wp2_with fail
  refine (C2.out _ hE1).mono ?_
  rintro e w2 ⟨rfl, hX2⟩
  have hE2 := hE1.trans' hX2
  have hY2 := hX1.trans' hX2
  go_wp2_with fail
  refine (C3.out _ hE2).mono ?_
  rintro e w3 ⟨rfl, hX3⟩
  have hE3 := hE2.trans' hX3
  have hY3 := hY2.trans' hX3
  go_wp2_with fail
  refine (f19_c _).mono ?_
  rintro e w9 ⟨rfl, hE9⟩
  go_wp2_with fail
  go_ret
  exact ⟨rfl, hE3.trans' hE9⟩

end Go.Proofs.Ytfhgnmijigdlmaa