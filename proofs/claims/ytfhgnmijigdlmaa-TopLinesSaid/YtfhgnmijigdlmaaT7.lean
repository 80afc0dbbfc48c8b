/- Contracts of the line: Least, Ordered, Cost, Total, Below. -/
import Derived.Test.YtfhgnmijigdlmaaT6
namespace Go.Proofs.Ytfhgnmijigdlmaa
open Go.RowKit
attribute [local go_sem] GW.cell

theorem units_bd {l : List Atom} (h : Fine l) {k : Nat} (hk : k < (unitsL l).length) : -60000 ≤ (unitsL l)[k] ∧ (unitsL l)[k] ≤ 60000 := by
  have hm : (unitsL l)[k] ∈ unitsL l := List.getElem_mem hk
  unfold unitsL at hm
  rw [List.mem_flatMap] at hm
  obtain ⟨x, hx, h2⟩ := hm
  obtain ⟨j, hj, rfl⟩ := List.getElem_of_mem hx
  have := (h.2 j hj).1
  rw [List.mem_replicate] at h2
  obtain ⟨_, h3⟩ := h2
  have e : (unitsL l)[k] = l[j].p := h3
  rw [e]
  exact this
theorem units_in {l : List Atom} (h : Fine l) : ∀ j, j < (unitsL l).length → -60000 ≤ (unitsL l)[j]?.getD 0 ∧ (unitsL l)[j]?.getD 0 ≤ 60000 := fun j hj => by
  rw [List.getElem?_eq_getElem hj, Option.getD_some]; exact units_bd h hj
theorem units_40 {l : List Atom} (h : Fine l) : (unitsL l).length ≤ 40000 := by
  have h1 := units_len h
  have h2 := fine_total h
  omega
def leastErr (a b : List Atom) (k : Int) : Int := if bothErr a b ≠ 0 then bothErr a b else if kindB k then (if totalL a ≠ totalL b then 5 else 0) else 1
def leastV (a b : List Atom) (k : Int) : Int := if leastErr a b k = 0 then apartL a b k else 0
theorem kind_or {k : Int} (h : kindB k = true) : k = 1 ∨ k = 2 := by simpa [kindB] using h
theorem leastErr_ok {a b : List Atom} {k : Int} (h : leastErr a b k = 0) : linePair a b = 0 ∧ kindB k = true := by
  unfold leastErr at h
  by_cases h1 : bothErr a b = 0
  · rw [if_neg (by simpa using h1)] at h
    by_cases h2 : kindB k = true
    · rw [if_pos h2] at h
      by_cases h3 : totalL a = totalL b
      · exact ⟨by unfold linePair; rw [if_neg (by simpa using h1), if_neg (by simpa using h3)], h2⟩
      · rw [if_pos h3] at h; omega
    · rw [if_neg h2] at h; omega
  · rw [if_pos h1] at h; exact absurd h h1
theorem leastErr_mk {a b : List Atom} {k : Int} (h : linePair a b = 0) (h2 : kindB k = true) : leastErr a b k = 0 := by
  obtain ⟨a1, a2, a3⟩ := linePair_ok h
  unfold leastErr
  rw [if_neg (by simp [bothErr, a1, a2]), if_pos h2, if_neg (by simpa using a3)]
theorem pair_both {a b : List Atom} (h : bothErr a b = 0) : linePair a b = if totalL a ≠ totalL b then 5 else 0 := by unfold linePair; rw [if_neg (by simpa using h)]
/-- what is known of the ordered moves of two loads -/
theorem ord_facts {a b : List Atom} (h : linePair a b = 0) : (ordL a b).length ≤ 12 ∧ MBd (ordL a b) ∧ chkErr a b (ordL a b) = 0 ∧ ordB (ordL a b) = true ∧ ∀ k, costTo (ordL a b) k (ordL a b).length = apartL a b k := by
  obtain ⟨a1, a2, a3⟩ := linePair_ok h
  obtain ⟨h1, h2, h3⟩ := ordL_facts (fine_load a1) (fine_load a2) (load_pw a1) (load_pw a2) (pair_len h)
  have l1 := (listErr_ok a1).1
  have l2 := (listErr_ok a2).1
  obtain ⟨g1, g2, g3⟩ := ordered_said h h1 (by omega) (fun x hx => (h3 x hx).1.1)
  exact ⟨by omega, h3, g1, g2, g3⟩
theorem apartL_bd {a b : List Atom} (h : linePair a b = 0) (k : Int) : 0 ≤ apartL a b k ∧ apartL a b k ≤ 3000000000000 := by
  obtain ⟨a1, a2, a3⟩ := linePair_ok h
  have hb := apartTo_bd (units_in (fine_load a1)) (units_in (fine_load a2)) k (unitsL a).length (Nat.le_refl _) (by have := pair_len h; omega)
  have h1 := load_total a1
  have h2 := units_len (fine_load a1)
  unfold apartL
  omega
set_option maxHeartbeats 4000000 in
theorem f20_c (a1 a2 : Option Addr) (n c n2 c2 : Nat) (a b : List Atom) (k : Int) (w : World) (hl : Atoms w a1 a) (hn : a.length = n) (hlen : n ≤ 140737488355328) (hm : Atoms w a2 b) (hn2 : b.length = n2) (hlen2 : n2 ≤ 140737488355328) :
    Calls Try.prog 20 #[.slice a1 n c, .slice a2 n2 c2, .int .i64 k] w fun e w' => e = .returned (.tuple #[.int .i64 (leastV a b k), .int .i64 (leastErr a b k)]) ∧ Ext w w' := by
  have C1 := f64_c a1 a2 n c n2 c2 a b w hl hn hlen hm hn2 hlen2
  by_cases h0 : bothErr a b = 0
  case neg =>
    have hb : (bothErr a b != 0) = true := by simp [h0]
    have e1 : leastErr a b k = bothErr a b := by unfold leastErr; rw [if_pos h0]
    have e2 : leastV a b k = 0 := by unfold leastV; rw [e1, if_neg h0]
    rw [e1, e2]
    have C1 := Lib.hid C1
    clear h0 e1 e2
    generalize bothErr a b = E at *
    go_enter Try.func20, Try.ntmps20
    go_wp2_with fail
    refine C1.out.mono ?_
    rintro e w1 ⟨rfl, hE1⟩
    go_wp2_with fail
    go_ret2
    exact ⟨rfl, hE1⟩
  have C2 := fun W (h : Ext w W) => f65_c a1 a2 n c n2 c2 a b W (hl.ext h) hn hlen (hm.ext h) hn2 hlen2
  rw [h0] at C1
  have C1 := Lib.hid C1
  cases hk : kindB k
  · have e1 : leastErr a b k = 1 := by unfold leastErr; rw [if_neg (by simpa using h0), if_neg (by simp [hk])]
    have e2 : leastV a b k = 0 := by unfold leastV; rw [e1, if_neg (by omega)]
    rw [e1, e2]
    have k1 : (k != 1) = true := by simp [kindB] at hk ⊢; exact hk.1
    have k2 : (k != 2) = true := by simp [kindB] at hk ⊢; exact hk.2
    clear h0 e1 e2 hk C2 hn hn2
    go_enter Try.func20, Try.ntmps20
    go_wp2_with fail
    refine C1.out.mono ?_
    rintro e w1 ⟨rfl, hE1⟩
    go_wp2_with fail
    go_ret2
    exact ⟨rfl, hE1⟩
  by_cases hp : linePair a b = 0
  case neg =>
    have hb : (linePair a b != 0) = true := by simp [hp]
    have e1 : leastErr a b k = linePair a b := by unfold leastErr; rw [if_neg (by simpa using h0), if_pos hk, pair_both h0]
    have e2 : leastV a b k = 0 := by unfold leastV; rw [e1, if_neg hp]
    rw [e1, e2]
    have C2 := Lib.hid C2
    have hk := kind_or hk
    clear h0 e1 e2 hp hn hn2
    generalize linePair a b = E at *
    rcases hk with rfl | rfl
    all_goals
      go_enter Try.func20, Try.ntmps20
      go_wp2_with fail
      refine C1.out.mono ?_
      rintro e w1 ⟨rfl, hE1⟩
      go_wp2_with fail
      refine (C2.out _ hE1).mono ?_
      rintro e w2 ⟨rfl, hE2⟩
      go_wp2_with fail
      go_ret2
      exact ⟨rfl, hE1.trans' hE2⟩
  obtain ⟨g1, g2, -, -, g3⟩ := ord_facts hp
  have e1 := leastErr_mk hp hk
  have e2 : leastV a b k = costTo (ordL a b) k (ordL a b).length := by unfold leastV; rw [if_pos e1, g3]
  rw [e1, e2]
  have C3 := Lib.hid (fun W (h : Ext w W) => f67_c a1 a2 n c n2 c2 a b W (hl.ext h) hn (hm.ext h) hn2 hp)
  rw [hp] at C2
  have C2 := Lib.hid C2
  have Hg2 := Lib.hid g2
  have hk := kind_or hk
  clear h0 e1 e2 hp g3 hn hn2 g2
  generalize ordL a b = M at *
  rcases hk with rfl | rfl
  all_goals
    go_enter Try.func20, Try.ntmps20
    go_wp2_with fail
    refine C1.out.mono ?_
    rintro e w1 ⟨rfl, hE1⟩
    go_wp2_with fail
    refine (C2.out _ hE1).mono ?_
    rintro e w2 ⟨rfl, hX2⟩
    have hE2 := hE1.trans' hX2
    go_wp2_with fail
    refine (C3.out _ hE2).mono ?_
    rintro e w3 ⟨v, rfl, hrow, hX3⟩
    obtain ⟨a3, c3, e3, hM⟩ := moves_of_row hrow
    subst e3
    have hE3 := hE2.trans' hX3
    clear hrow
    have HM := Lib.hid hM
    clear hM
    go_wp2_with fail
    refine (f66_c a3 M.length c3 M _ _ HM.out rfl (by omega) Hg2.out (by omega)).mono ?_
    rintro e w4 ⟨rfl, hX4⟩
    go_wp2_with fail
    go_ret2
    exact ⟨rfl, hE3.trans' hX4⟩
/-- what a call hands back that makes moves and an error -/
def RetMoves (M : List Move) (err : Int) (w : World) (e : Ending) (w' : World) : Prop := ∃ a c, e = .returned (.tuple #[.slice a M.length c, .int .i64 err]) ∧ Moves w' a M ∧ Ext w w'
theorem retM_nil {w w' : World} {e : Int} (hE : Ext w w') : RetMoves [] e w (.returned (.tuple #[.slice none 0 0, .int .i64 e])) w' := ⟨none, 0, rfl, fun j hj => by simp at hj, hE⟩
def ordV (a b : List Atom) : List Move := if linePair a b = 0 then ordL a b else []
set_option maxHeartbeats 4000000 in
theorem f33_c (a1 a2 : Option Addr) (n c n2 c2 : Nat) (a b : List Atom) (w : World) (hl : Atoms w a1 a) (hn : a.length = n) (hlen : n ≤ 140737488355328) (hm : Atoms w a2 b) (hn2 : b.length = n2) (hlen2 : n2 ≤ 140737488355328) :
    Calls Try.prog 33 #[.slice a1 n c, .slice a2 n2 c2] w (RetMoves (ordV a b) (linePair a b) w) := by
  have C2 := f65_c a1 a2 n c n2 c2 a b w hl hn hlen hm hn2 hlen2
  by_cases hp : linePair a b = 0
  case neg =>
    have hb : (linePair a b != 0) = true := by simp [hp]
    rw [show ordV a b = [] by unfold ordV; rw [if_neg hp]]
    have C2 := Lib.hid C2
    clear hp hn hn2
    generalize linePair a b = E at *
    go_enter Try.func33, Try.ntmps33
    go_wp2_with fail
    refine C2.out.mono ?_
    rintro e w1 ⟨rfl, hE1⟩
    go_wp2_with fail
    go_ret2
    exact retM_nil hE1
  have C3 := Lib.hid (fun W (h : Ext w W) => f67_c a1 a2 n c n2 c2 a b W (hl.ext h) hn (hm.ext h) hn2 hp)
  rw [show ordV a b = ordL a b by unfold ordV; rw [if_pos hp], hp]
  rw [hp] at C2
  have C2 := Lib.hid C2
  clear hp hn hn2
  generalize ordL a b = M at *
  go_enter Try.func33, Try.ntmps33
  go_wp2_with fail
  refine C2.out.mono ?_
  rintro e w1 ⟨rfl, hE1⟩
  go_wp2_with fail
  refine (C3.out _ hE1).mono ?_
  rintro e w3 ⟨v, rfl, hrow, hX3⟩
  obtain ⟨a3, c3, e3, hM⟩ := moves_of_row hrow
  have hf := Lib.hid (show RetMoves M 0 w (.returned (.tuple #[v, .int .i64 0])) w3 from ⟨a3, c3, by rw [e3], hM, hE1.trans' hX3⟩)
  subst e3
  clear hrow hM
  go_wp2_with fail
  go_ret2
  exact hf.out
/-! totals and heaps -/
def totV (l : List Atom) : Int := if valLoad l = 0 then totalL l else 0
def belV (l : List Atom) (t : Int) : Int := if valLoad l = 0 then bel l t else 0
set_option maxHeartbeats 2000000 in
theorem f31_c (a : Option Addr) (n c : Nat) (l : List Atom) (w : World) (hl : Atoms w a l) (hn : l.length = n) (hlen : n ≤ 140737488355328) :
    Calls Try.prog 31 #[.slice a n c] w fun e w' => e = .returned (.tuple #[.int .i64 (totV l), .int .i64 (valLoad l)]) ∧ Ext w w' := by
  have C1 := f47_c a n c l w hl hn hlen
  unfold totV
  by_cases h0 : valLoad l = 0
  · have C2 := Lib.hid (fun W (h : Ext w W) => f81_c a n c l W (hl.ext h) hn (fine_load h0))
    rw [if_pos h0]
    rw [h0] at C1 ⊢
    have C1 := Lib.hid C1
    clear h0 hn
    generalize totalL l = T at *
    go_enter Try.func31, Try.ntmps31
    go_wp2_with fail
    refine C1.out.mono ?_
    rintro e w1 ⟨rfl, hE1⟩
    go_wp2_with fail
    refine (C2.out _ hE1).mono ?_
    rintro e w2 ⟨rfl, hE2⟩
    go_wp2_with fail
    go_ret2
    exact ⟨rfl, hE1.trans' hE2⟩
  · have hb : (valLoad l != 0) = true := by simp [h0]
    rw [if_neg h0]
    have C1 := Lib.hid C1
    clear h0 hn
    generalize valLoad l = E at *
    go_enter Try.func31, Try.ntmps31
    go_wp2_with fail
    refine C1.out.mono ?_
    rintro e w1 ⟨rfl, hE1⟩
    go_wp2_with fail
    go_ret2
    exact ⟨rfl, hE1⟩
set_option maxHeartbeats 2000000 in
theorem f42_c (a : Option Addr) (n c : Nat) (l : List Atom) (t : Int) (w : World) (hl : Atoms w a l) (hn : l.length = n) (hlen : n ≤ 140737488355328) :
    Calls Try.prog 42 #[.slice a n c, .int .i64 t] w fun e w' => e = .returned (.tuple #[.int .i64 (belV l t), .int .i64 (valLoad l)]) ∧ Ext w w' := by
  have C1 := f47_c a n c l w hl hn hlen
  unfold belV bel
  by_cases h0 : valLoad l = 0
  · have C2 := Lib.hid (fun W (h : Ext w W) => f78_c a n c l t W (hl.ext h) hn (fine_load h0))
    rw [if_pos h0]
    rw [h0] at C1 ⊢
    have C1 := Lib.hid C1
    clear h0 hn
    generalize belTo l t l.length = T at *
    go_enter Try.func42, Try.ntmps42
    go_wp2_with fail
    refine C1.out.mono ?_
    rintro e w1 ⟨rfl, hE1⟩
    go_wp2_with fail
    refine (C2.out _ hE1).mono ?_
    rintro e w2 ⟨rfl, hE2⟩
    go_wp2_with fail
    go_ret2
    exact ⟨rfl, hE1.trans' hE2⟩
  · have hb : (valLoad l != 0) = true := by simp [h0]
    rw [if_neg h0]
    have C1 := Lib.hid C1
    clear h0 hn
    generalize valLoad l = E at *
    go_enter Try.func42, Try.ntmps42
    go_wp2_with fail
    refine C1.out.mono ?_
    rintro e w1 ⟨rfl, hE1⟩
    go_wp2_with fail
    go_ret2
    exact ⟨rfl, hE1⟩
end Go.Proofs.Ytfhgnmijigdlmaa
