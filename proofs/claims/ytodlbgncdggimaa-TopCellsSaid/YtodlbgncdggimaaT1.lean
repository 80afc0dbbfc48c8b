/- Contracts of the smallest functions of layer 5. -/
import Derived.WalkKit
import Derived.WalkSpells
import Derived.WalkLawsBesides
import Derived.Deep.QuietTactic
import Derived.BigQuiet
import Derived.Lib.Hide
import Derived.Test.YtodlbgncdggimaaProg
import Derived.Test.YtodlbgncdggimaaBase
namespace Go.Proofs.Ytodlbgncdggimaa
open Go.RowKit

theorem f60_c (n lo hi : Int) (w : World) :
    Calls Try.prog 60 #[.int .i64 n, .int .i64 lo, .int .i64 hi] w fun e w' => e = .returned (.bool (withinB n lo hi)) ∧ w = w' := by
  go_enter Try.func60, Try.ntmps60
  go_wp2
  all_goals (go_ret; exact ⟨ret_bool (by simp [withinB]; try omega), rfl⟩)

theorem f86_c (n most : Int) (b : Nat) (w : World) (hc : w.cell? ⟨b, 0, none⟩ = some (.int .i64 most)) (h0 : 0 ≤ most) (h1 : most ≤ 1000000) :
    Calls Try.prog 86 #[.int .i64 n, .pointer (some ⟨b, 0, none⟩)] w fun e w' => e = .returned (.bool (!withinB n (-most) most)) ∧ w = w' := by
  go_enter Try.func86, Try.ntmps86
  go_wp2
  all_goals (go_ret; exact ⟨ret_bool (by rw [Bool.eq_iff_iff]; simp [withinB]; try omega), rfl⟩)

set_option maxHeartbeats 1000000 in
theorem f95_within (most : Int) (bm : Nat) (a : Option Addr) (c : Nat) (l : List Int) (w : World) (hl : Ints w a l) (hlen : l.length ≤ 140737488355328)
    (hc : w.cell? ⟨bm, 0, none⟩ = some (.int .i64 most)) (h0 : 0 ≤ most) (h1 : most ≤ 1000000) :
    Calls Try.prog 95 #[.slice a l.length c, .func (.func 86) #[] #[.pointer (some ⟨bm, 0, none⟩)]] w fun e w' =>
      e = .returned (.int .i64 (idxP (fun n => !withinB n (-most) most) l)) ∧ w = w' := by
  go_enter Try.func95, Try.ntmps95
  go_wp2_with fail
  go_loop [5, 8] (fun _ i => ∃ k : Nat, k ≤ l.length ∧ i = .int .i64 k ∧ Hid (∀ j, j < k → (!withinB (l[j]?.getD 0) (-most) most) = false)) (fun _ i => l.length - (intOf i).toNat)
  case atStart => exact ⟨0, Nat.zero_le _, rfl, fun j hj => by omega⟩
  case round =>
    obtain ⟨k, hk, rfl, H⟩ := hrel
    by_cases hlt : k < l.length
    · obtain ⟨b, off, rfl, hb, hcc⟩ := hl k hlt
      go_wp2_with (go_at_call 86; refine (f86_c _ _ _ _ hc h0 h1).mono ?_; rintro e w' ⟨rfl, rfl⟩)
      · have hy : (!withinB l[k] (-most) most) = true := by assumption
        go_ret
        exact ⟨ret_int (idxP_hit (p := fun n => !withinB n (-most) most) hlt H.out hy).symm, rfl⟩
      · have hy : (!withinB l[k] (-most) most) = false := by assumption
        go_round
        case rel =>
          refine ⟨k + 1, by omega, by go_num, fun j hj => ?_⟩
          by_cases e : j = k
          · subst e; rw [List.getElem?_eq_getElem hlt]; exact hy
          · exact H.out j (by omega)
        case measure => simp [intOf]; omega
    · obtain rfl : k = l.length := by omega
      go_wp2_with fail
      go_ret
      exact ⟨ret_int (idxP_miss (p := fun n => !withinB n (-most) most) H.out).symm, rfl⟩

theorem f85_within (most : Int) (bm : Nat) (a : Option Addr) (c : Nat) (l : List Int) (w : World) (hl : Ints w a l) (hlen : l.length ≤ 140737488355328)
    (hc : w.cell? ⟨bm, 0, none⟩ = some (.int .i64 most)) (h0 : 0 ≤ most) (h1 : most ≤ 1000000) :
    Calls Try.prog 85 #[.slice a l.length c, .func (.func 86) #[] #[.pointer (some ⟨bm, 0, none⟩)]] w fun e w' =>
      e = .returned (.bool (l.any (fun n => !withinB n (-most) most))) ∧ w = w' := by
  go_enter Try.func85, Try.ntmps85
  go_wp2_with (go_at_call 95; refine (f95_within _ _ _ _ _ _ hl hlen hc h0 h1).mono ?_; rintro e w' ⟨rfl, rfl⟩)
  go_ret
  exact ⟨ret_bool (idxP_geq _ _), rfl⟩

def allIn (most : Int) (l : List Int) : Bool := l.all fun n => withinB n (-most) most

theorem f57_c (most : Int) (a : Option Addr) (n c : Nat) (l : List Int) (w : World) (hl : Ints w a l) (hn : l.length = n) (hlen : n ≤ 140737488355328)
    (h0 : 0 ≤ most) (h1 : most ≤ 1000000) :
    Calls Try.prog 57 #[.int .i64 most, .slice a n c] w fun e w' =>
      e = .returned (.bool (allIn most l)) ∧ Ext w w' := by
  subst hn
  have hE : Ext w (w.alloc (.cells #[.int .i64 most] 3)) := (Below.refl _ w).alloc (Nat.le_refl _) _
  have hl2 := Lib.hid (hl.ext hE)
  have hn : (w.alloc (.cells #[.int .i64 most] 3)).cell? ⟨w.heap.size, 0, none⟩ = some (.int .i64 most) := by simp
  have hn2 := Lib.hid hn
  clear hn
  go_enter Try.func57, Try.ntmps57
  go_wp2_with (go_at_call 85; refine (f85_within _ _ _ _ _ _ hl2.out hlen hn2.out h0 h1).mono ?_; rintro e w' ⟨rfl, rfl⟩)
  go_ret
  refine ⟨ret_bool ?_, hE⟩
  simp [allIn, List.all_eq_not_any_not]
end Go.Proofs.Ytodlbgncdggimaa
