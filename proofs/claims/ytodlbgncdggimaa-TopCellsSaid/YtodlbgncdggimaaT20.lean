/- Contracts: count, of the program and of the reference. -/
import Derived.Test.YtodlbgncdggimaaT19
import Derived.Test.YtodlbgncdggimaaT14
namespace Go.Proofs.Ytodlbgncdggimaa
open Go.RowKit
attribute [local go_sem] GW.cell

/-- how many of the first k owners are each of the first n numbers -/
def countTo (n : Nat) (O : List Int) (k : Nat) : List Int := (List.range n).map fun i : Nat => ((cntTo O (i : Int) k : Nat) : Int)
def countL (n : Nat) (O : List Int) : List Int := countTo n O O.length
theorem countTo_length (n : Nat) (O : List Int) (k : Nat) : (countTo n O k).length = n := by simp [countTo]
theorem countTo_at {n : Nat} {O : List Int} {k i : Nat} (hi : i < n) : (countTo n O k)[i]? = some ((cntTo O (i : Int) k : Nat) : Int) := by simp [countTo, hi]
theorem countTo_zero (n : Nat) (O : List Int) : countTo n O 0 = List.replicate n 0 := by
  apply List.ext_getElem (by simp [countTo])
  intro i h1 h2
  simp [countTo, cntTo]
theorem countTo_succ {n : Nat} {O : List Int} {k i : Nat} (hk : k < O.length) (hi : O[k] = i) (_hin : i < n) : (countTo n O k).set i (((cntTo O (i : Int) k : Nat) : Int) + 1) = countTo n O (k + 1) := by
  apply List.ext_getElem (by simp [countTo])
  intro j h1 h2
  rw [List.getElem_set]
  simp only [countTo, List.getElem_map, List.getElem_range, cntTo, List.getElem?_eq_getElem hk, Option.getD_some, hi]
  by_cases e : i = j
  · subst e; simp
  · rw [if_neg e, if_neg (by omega)]; simp

theorem made_one (z : Value) (n : Nat) : (madeCells #[z] (n * 1)).toList = List.replicate n z := by
  apply List.ext_getElem (by simp [madeCells])
  intro i h1 h2
  simp [madeCells, Nat.mod_one]

/-- one more at place i -/
theorem count_store {W : World} {B n k i : Nat} {O : List Int} (h : W.ownsRow B 3 1 (.slice (some ⟨B, 0, none⟩) n n) n ((countTo n O k).map (.int .i64))) (hk : k < O.length) (hi : O[k] = i) (hin : i < n) :
    (W.setCell ⟨B, i, none⟩ (.int .i64 (((cntTo O (i : Int) k : Nat) : Int) + 1))).ownsRow B 3 1 (.slice (some ⟨B, 0, none⟩) n n) n ((countTo n O (k + 1)).map (.int .i64)) := by
  have hst := (h.stored i (.int .i64 (((cntTo O (i : Int) k : Nat) : Int) + 1))).1
  rw [← List.map_set, countTo_succ hk hi hin] at hst
  exact hst
theorem count_cell {W : World} {B n k i : Nat} {O : List Int} (h : W.ownsRow B 3 1 (.slice (some ⟨B, 0, none⟩) n n) n ((countTo n O k).map (.int .i64))) (hin : i < n) :
    W.cell? ⟨B, i, none⟩ = some (.int .i64 ((cntTo O (i : Int) k : Nat) : Int)) := by
  refine (h.cellAt i (by omega)).trans ?_
  rw [List.getElem?_map, countTo_at hin]
  rfl

set_option maxHeartbeats 1000000 in
theorem f70_c (a b : Option Addr) (n c m d : Nat) (O : List Int) (w : World) (hO : Ints w b O) (hm : O.length = m) (h5 : n ≤ 5) (hlm : m ≤ 140737488355328) (hin : ∀ j (hj : j < O.length), ∃ i : Nat, O[j] = i ∧ i < n) :
    Calls Try.prog 70 #[.slice a n c, .slice b m d] w fun e w' => ∃ v, e = .returned v ∧ w'.ownsRow w.heap.size 3 1 v n ((countL n O).map (.int .i64)) ∧ Ext w w' := by
  subst hm
  have Hin := Lib.hid hin
  clear hin
  obtain ⟨i0, hi0⟩ := info_parts info3
  have Hi := Lib.hid hi0
  clear hi0
  go_enter Try.func70, Try.ntmps70
  go_wp2_with (at_make; refine wpList_make_full _ rfl (.tmp 9) (.tmp 9) 26 rfl w.heap.size 3 i0 (.int .i64 0) 1 Try.underlying26 Hi.out.1 Hi.out.2.1 Hi.out.2.2.1 .i64 .i64 n n n rfl rfl rfl rfl (by rw [Hi.out.2.2.2]; omega) (by unfold maxLen; omega) (Nat.le_refl _) ?_; intro w1 hrow hgrow; have hE1 := (Below.refl _ w).grown hgrow (Nat.le_refl _) (by simp); rw [show (Value.int IntKind.i64 0).cells = #[.int .i64 0] from rfl, made_one] at hrow; have Hrow := Lib.hid hrow; clear hrow hgrow)
  go_loopw [7, 13] (fun _ i wr => ∃ k : Nat, k ≤ O.length ∧ i = .int .i64 k ∧ Ext w wr ∧ Hid (wr.ownsRow w.heap.size 3 1 (.slice (some ⟨w.heap.size, 0, none⟩) n n) n ((countTo n O k).map (.int .i64)))) (fun _ i _ => O.length - (intOf i).toNat)
  case atStart => exact ⟨0, by omega, rfl, hE1, by rw [countTo_zero, List.map_replicate]; exact Hrow⟩
  case round =>
    obtain ⟨k, hk, rfl, hE, H⟩ := hrel
    by_cases hlt : k < O.length
    · obtain ⟨i, hi, hil⟩ := Hin.out k hlt
      obtain ⟨b2, o2, rfl, hb2, hc2⟩ := hO.ext hE k hlt
      rw [List.getElem?_eq_getElem hlt, Option.getD_some, hi] at hc2
      have hcb := cntTo_le O i k
      have hcc := count_cell H.out hil
      have hff := H.out.frozenAt i
      have H2 := Lib.hid (count_store H.out hlt hi hil)
      clear hi
      go_wp2_with fail
      go_roundw
      case rel => exact ⟨k + 1, by omega, by go_num, hE.setCell (Nat.le_refl _) _, H2⟩
      case measure => simp [intOf]; omega
    · obtain rfl : k = O.length := by omega
      go_wp2_with fail
      go_ret
      exact ⟨_, rfl, H.out, hE⟩
set_option maxHeartbeats 1000000 in
theorem f71_c (a b : Option Addr) (n c m d : Nat) (O : List Int) (w : World) (hO : Ints w b O) (hm : O.length = m) (h5 : n ≤ 5) (hlm : m ≤ 140737488355328) (hin : ∀ j (hj : j < O.length), ∃ i : Nat, O[j] = i ∧ i < n) :
    Calls Try.prog 71 #[.slice a n c, .slice b m d] w fun e w' => ∃ v, e = .returned v ∧ w'.ownsRow w.heap.size 3 1 v n ((countL n O).map (.int .i64)) ∧ Ext w w' := by
  subst hm
  have Hin := Lib.hid hin
  clear hin
  obtain ⟨i0, hi0⟩ := info_parts info3
  have Hi := Lib.hid hi0
  clear hi0
  go_enter Try.func71, Try.ntmps71
  go_wp2_with (at_make; refine wpList_make_full _ rfl (.tmp 8) (.tmp 8) 26 rfl w.heap.size 3 i0 (.int .i64 0) 1 Try.underlying26 Hi.out.1 Hi.out.2.1 Hi.out.2.2.1 .i64 .i64 n n n rfl rfl rfl rfl (by rw [Hi.out.2.2.2]; omega) (by unfold maxLen; omega) (Nat.le_refl _) ?_; intro w1 hrow hgrow; have hE1 := (Below.refl _ w).grown hgrow (Nat.le_refl _) (by simp); rw [show (Value.int IntKind.i64 0).cells = #[.int .i64 0] from rfl, made_one] at hrow; have Hrow := Lib.hid hrow; clear hrow hgrow)
  go_loopw [6] (fun i wr => ∃ k : Nat, k ≤ O.length ∧ i = .int .i64 k ∧ Ext w wr ∧ Hid (wr.ownsRow w.heap.size 3 1 (.slice (some ⟨w.heap.size, 0, none⟩) n n) n ((countTo n O k).map (.int .i64)))) (fun i _ => O.length - (intOf i).toNat)
  case atStart => exact ⟨0, by omega, rfl, hE1, by rw [countTo_zero, List.map_replicate]; exact Hrow⟩
  case round =>
    obtain ⟨k, hk, rfl, hE, H⟩ := hrel
    by_cases hlt : k < O.length
    · obtain ⟨i, hi, hil⟩ := Hin.out k hlt
      have hi5 : i < 5 := by omega
      obtain ⟨b2, o2, rfl, hb2, hc2⟩ := hO.ext hE k hlt
      rw [List.getElem?_eq_getElem hlt, Option.getD_some, hi] at hc2
      have hcb := cntTo_le O i k
      have hcc := count_cell H.out hil
      have hff := H.out.frozenAt i
      have H2 := Lib.hid (count_store H.out hlt hi hil)
      clear hi
      go_wp2_with fail
      go_roundw
      case rel => exact ⟨k + 1, by omega, by go_num, hE.setCell (Nat.le_refl _) _, H2⟩
      case measure => simp [intOf]; omega
    · obtain rfl : k = O.length := by omega
      go_wp2_with fail
      go_ret
      exact ⟨_, rfl, H.out, hE⟩
end Go.Proofs.Ytodlbgncdggimaa
