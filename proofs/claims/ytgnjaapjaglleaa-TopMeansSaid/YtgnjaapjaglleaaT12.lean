/- Contracts of layer 7: long loads. -/
import Derived.Test.YtgnjaapjaglleaaT11
import Derived.Test.YtgnjaapjaglleaaP7
import Derived.Test.YtgnjaapjaglleaaLen
namespace Go.Proofs.Ytgnjaapjaglleaa
open Go.RowKit
attribute [local go_sem] GW.cell

theorem long_yes {ll : List (List Atom)} {k : Nat} (hk : k < ll.length) (h : 100 < ll[k].length) : longB ll = true := by
  unfold longB
  rw [Bool.or_eq_true]; left
  rw [List.any_eq_true]
  exact ⟨_, List.getElem_mem hk, by simpa using h⟩
theorem long_end {ll : List (List Atom)} (h : ∀ j, (hj : j < ll.length) → ll[j].length ≤ 100) : longB ll = decide (40 < (ll.length : Int)) := by
  unfold longB
  have : ll.any (fun l => decide (100 < l.length)) = false := by
    rw [List.any_eq_false]
    intro x hx
    obtain ⟨j, hj, rfl⟩ := List.getElem_of_mem hx
    have := h j hj
    simp; omega
  rw [this, Bool.false_or, decide_eq_decide]; omega
set_option maxHeartbeats 1000000 in
theorem f32_c (a : Option Addr) (n c : Nat) (l : List (List Atom)) (w : World) (hl : Loads w a l) (hn : l.length = n) (hlen : n ≤ 9223372036854775807) :
    Calls Try.prog 32 #[.slice a n c] w fun e w' => e = .returned (.bool (longB l)) ∧ Ext w w' := by
  subst hn
  go_enter Try.func32, Try.ntmps32
  go_wp2_with fail
  go_loopw [3] (fun i wr => ∃ k : Nat, k ≤ l.length ∧ i = .int .i64 k ∧ Ext w wr ∧ Hid (∀ j, (hj : j < l.length) → j < k → l[j].length ≤ 100)) (fun i _ => l.length - (intOf i).toNat)
  case atStart => exact ⟨0, Nat.zero_le _, rfl, Below.refl _ _, fun j hj h => by omega⟩
  case round =>
    obtain ⟨k, hk, rfl, hE, H⟩ := hrel
    by_cases hlt : k < l.length
    · obtain ⟨b, off, a', c', rfl, hb, hc, hi⟩ := hl.ext hE k hlt
      by_cases h100 : 100 < l[k].length
      · have Hy := Lib.hid (long_yes hlt h100)
        have hd : decide (100 < (l[k].length : Int)) = true := by simp; omega
        go_wp2_with fail
        go_ret
        exact ⟨ret_bool Hy.out.symm, hE⟩
      · have H100 := Lib.hid h100
        have hd : decide (100 < (l[k].length : Int)) = false := by simp; omega
        clear h100
        go_wp2_with fail
        go_roundw
        case rel =>
          refine ⟨k + 1, by omega, by go_num, hE, fun j hj hjk => ?_⟩
          rcases Nat.lt_or_ge j k with h | h
          · exact H.out j hj h
          · obtain rfl : j = k := by omega
            exact Nat.le_of_not_lt H100.out
        case measure => simp [intOf]; omega
    · obtain rfl : k = l.length := by omega
      go_wp2_with fail
      go_ret
      exact ⟨ret_bool (long_end (fun j hj => H.out j hj hj)).symm, hE⟩
theorem f22_c (a a2 : Option Addr) (n c n2 c2 : Nat) (l : List (List Atom)) (w : World) (hl : Loads w a l) (hn : l.length = n) (hlen : n ≤ 9223372036854775807) :
    Calls Try.prog 22 #[.agg #[.slice a n c, .slice a2 n2 c2]] w fun e w' => e = .returned (.bool (longB l || decide (100 < (n2 : Int)))) ∧ Ext w w' := by
  have hE0 := ext_alloc w (.cells #[.slice a n c, .slice a2 n2 c2] 32)
  have HB := Lib.hid (BlkC.new w #[.slice a n c, .slice a2 n2 c2] 32)
  go_enter Try.func22, Try.ntmps22
  go_wp2_with fail
  refine (f32_c a n c l _ (hl.ext hE0) hn hlen).mono ?_
  rintro e w1 ⟨rfl, hE1⟩
  have HB2 := HB.out.ext hE1
  have g1 := HB2.cellv 1 (v := .slice a2 n2 c2) rfl
  rcases Bool.eq_false_or_eq_true (longB l) with h | h
  all_goals
    rw [h]
    go_wp2_with fail
    go_ret
    exact ⟨ret_bool (by simp [h]), hE0.trans' hE1⟩

end Go.Proofs.Ytgnjaapjaglleaa
