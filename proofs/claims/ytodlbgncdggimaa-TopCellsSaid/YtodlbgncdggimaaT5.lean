/- slices.Index, slices.Contains, slices.Min at ints. -/
import Derived.Test.YtodlbgncdggimaaT3
import Derived.Test.YtodlbgncdggimaaTail
namespace Go.Proofs.Ytodlbgncdggimaa
open Go.RowKit
attribute [local go_sem] GW.cell

/-- the first place of x in l, or -1 -/
def idxOf (x : Int) (l : List Int) : Int := idxP (fun y => x == y) l

set_option maxHeartbeats 1000000 in
theorem f72_c (x : Int) (a : Option Addr) (n c : Nat) (l : List Int) (w : World) (hl : Ints w a l) (hn : l.length = n) (hlen : n ≤ 140737488355328) :
    Calls Try.prog 72 #[.slice a n c, .int .i64 x] w fun e w' =>
      e = .returned (.int .i64 (idxOf x l)) ∧ w = w' := by
  subst hn
  go_enter Try.func72, Try.ntmps72
  go_wp2_with fail
  go_loop [5, 8] (fun _ i => ∃ k : Nat, k ≤ l.length ∧ i = .int .i64 k ∧ Hid (∀ j, j < k → (x == (l[j]?.getD 0)) = false)) (fun _ i => l.length - (intOf i).toNat)
  case atStart => exact ⟨0, Nat.zero_le _, rfl, fun j hj => by omega⟩
  case round =>
    obtain ⟨k, hk, rfl, H⟩ := hrel
    by_cases hlt : k < l.length
    · obtain ⟨b, off, rfl, hb, hcc⟩ := hl k hlt
      by_cases hx : (x == l[k]) = true
      · go_wp2_with fail
        go_ret
        exact ⟨ret_int (idxP_hit (p := fun y => x == y) hlt H.out hx).symm, rfl⟩
      · have hx' : (x == l[k]) = false := by simpa using hx
        clear hx
        have Hx := Lib.hid hx'
        go_wp2_with fail
        go_round
        case rel =>
          refine ⟨k + 1, by omega, by go_num, fun j hj => ?_⟩
          by_cases e : j = k
          · subst e; rw [List.getElem?_eq_getElem hlt]; exact Hx.out
          · exact H.out j (by omega)
        case measure => simp [intOf]; omega
    · obtain rfl : k = l.length := by omega
      go_wp2_with fail
      go_ret
      exact ⟨ret_int (idxP_miss (p := fun y => x == y) H.out).symm, rfl⟩

theorem f73_c (x : Int) (a : Option Addr) (n c : Nat) (l : List Int) (w : World) (hl : Ints w a l) (hn : l.length = n) (hlen : n ≤ 140737488355328) :
    Calls Try.prog 73 #[.slice a n c, .int .i64 x] w fun e w' =>
      e = .returned (.bool (l.any fun y => x == y)) ∧ w = w' := by
  go_enter Try.func73, Try.ntmps73
  go_wp2_with (go_at_call 72; refine (f72_c _ _ _ _ _ _ hl hn hlen).mono ?_; rintro e w' ⟨rfl, rfl⟩)
  go_ret
  exact ⟨ret_bool (idxP_geq _ _), rfl⟩

/-- the smallest of the first k numbers of l (k at least 1) -/
def minTo (l : List Int) : Nat → Int
  | 0 => 0
  | k + 1 => if k = 0 then l[0]?.getD 0 else if l[k]?.getD 0 < minTo l k then l[k]?.getD 0 else minTo l k
theorem minTo_one (l : List Int) : minTo l 1 = l[0]?.getD 0 := by simp [minTo]
theorem minTo_succ (l : List Int) {k : Nat} (h : 1 ≤ k) (hk : k < l.length) : minTo l (k + 1) = if l[k] < minTo l k then l[k] else minTo l k := by
  rw [minTo, if_neg (by omega), List.getElem?_eq_getElem hk]; rfl

set_option maxHeartbeats 1000000 in
theorem f90_c (a : Option Addr) (n c : Nat) (l : List Int) (w : World) (hl : Ints w a l) (hn : l.length = n) (hlen : n ≤ 140737488355328) (h1 : 1 ≤ n) :
    Calls Try.prog 90 #[.slice a n c] w fun e w' =>
      e = .returned (.int .i64 (minTo l n)) ∧ w = w' := by
  subst hn
  obtain ⟨b, off, rfl, hb, hcc⟩ := hl 0 (by omega)
  rw [Nat.add_zero] at hcc
  have h00 : decide ((l.length : Int) < 1) = false := by simp; omega
  go_enter Try.func90, Try.ntmps90
  go_wp2_with fail
  go_loop [3, 4] (fun m i => ∃ k : Nat, 1 ≤ k ∧ k ≤ l.length ∧ i = .int .i64 k ∧ m = .int .i64 (minTo l k)) (fun _ i => l.length - (intOf i).toNat)
  case atStart => exact ⟨1, by omega, h1, rfl, by rw [minTo_one]⟩
  case round =>
    obtain ⟨k, hk1, hk, rfl, rfl⟩ := hrel
    by_cases hlt : k < l.length
    · obtain ⟨b', off', he, hb', hcc'⟩ := hl k hlt
      simp only [Option.some.injEq, Addr.mk.injEq] at he
      obtain ⟨rfl, rfl, -⟩ := he
      go_wp2_with fail
      go_round
      case rel => exact ⟨k + 1, by omega, by omega, by go_num, by rw [minTo_succ l hk1 hlt]⟩
      case measure => simp [intOf]; omega
    · obtain rfl : k = l.length := by omega
      go_wp2_with fail
      go_ret
      exact ⟨rfl, rfl⟩
end Go.Proofs.Ytodlbgncdggimaa
