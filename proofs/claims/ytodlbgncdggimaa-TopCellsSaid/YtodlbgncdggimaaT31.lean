/- Contracts: less, before, Sum. -/
import Derived.Test.YtodlbgncdggimaaT30
namespace Go.Proofs.Ytodlbgncdggimaa
open Go.RowKit
attribute [local go_sem] GW.cell

/-- two fractions whose products are small -/
def Small (a b c d : Int) : Prop := (-1000000000000 ≤ a * d ∧ a * d ≤ 1000000000000) ∧ (-1000000000000 ≤ c * b ∧ c * b ≤ 1000000000000)

theorem f78_c (a b c d : Int) (w : World) (h : Small a b c d) :
    Calls Try.prog 78 #[.agg #[.int .i64 a, .int .i64 b], .agg #[.int .i64 c, .int .i64 d]] w fun e w' => e = .returned (.bool (decide (a * d < c * b))) ∧ Ext w w' := by
  obtain ⟨h1, h2⟩ := h
  go_enter Try.func78, Try.ntmps78
  go_wp2
  all_goals go_ret
  all_goals exact ⟨ret_bool (by simp; try omega), (ext_alloc _ _).trans' (ext_alloc _ _)⟩

theorem f79_c (a b c d : Int) (w : World) (h : Small a b c d) :
    Calls Try.prog 79 #[.agg #[.int .i64 a, .int .i64 b], .agg #[.int .i64 c, .int .i64 d]] w fun e w' => e = .returned (.bool (decide (a * d < c * b))) ∧ Ext w w' := by
  obtain ⟨h1, h2⟩ := h
  go_enter Try.func79, Try.ntmps79
  go_wp2
  all_goals go_ret
  all_goals exact ⟨ret_bool (by simp; try omega), (ext_alloc _ _).trans' (ext_alloc _ _)⟩

set_option maxHeartbeats 1000000 in
theorem f48_c (a : Option Addr) (n c : Nat) (l : List Int) (w : World) (hl : Ints w a l) (hn : l.length = n) (hlen : n ≤ 1000000) (hb : ∀ k, k ≤ n → -1000000000000 ≤ (l.take k).sum ∧ (l.take k).sum ≤ 1000000000000) :
    Calls Try.prog 48 #[.slice a n c] w fun e w' => e = .returned (.int .i64 l.sum) ∧ Ext w w' := by
  subst hn
  have Hb := Lib.hid hb
  clear hb
  go_enter Try.func48, Try.ntmps48
  go_wp2_with fail
  go_loopw [3, 4] (fun v i wr => ∃ k : Nat, k ≤ l.length ∧ i = .int .i64 k ∧ v = .int .i64 (l.take k).sum ∧ Ext w wr) (fun _ i _ => l.length - (intOf i).toNat)
  case atStart => exact ⟨0, by omega, rfl, by simp, Below.refl _ _⟩
  case round =>
    obtain ⟨k, hk, rfl, rfl, hE⟩ := hrel
    have h1 := Hb.out k hk
    by_cases hlt : k < l.length
    · have h2 := Hb.out (k + 1) (by omega)
      have hs : (l.take (k + 1)).sum = (l.take k).sum + l[k] := by rw [List.take_succ_eq_append_getElem hlt, List.sum_append, List.sum_singleton]
      rw [hs] at h2
      have Hs := Lib.hid hs
      obtain ⟨b1, o1, rfl, hb1, hc1⟩ := hl.ext hE k hlt
      rw [List.getElem?_eq_getElem hlt, Option.getD_some] at hc1
      clear hs
      go_wp2_with fail
      go_roundw
      case rel => exact ⟨k + 1, by omega, by go_num, by rw [Hs.out], hE⟩
      case measure => simp [intOf]; omega
    · obtain rfl : k = l.length := by omega
      have Ht := Lib.hid (show (l.take l.length).sum = l.sum by rw [List.take_length])
      go_wp2_with fail
      go_ret
      exact ⟨ret_int Ht.out, hE⟩
end Go.Proofs.Ytodlbgncdggimaa
