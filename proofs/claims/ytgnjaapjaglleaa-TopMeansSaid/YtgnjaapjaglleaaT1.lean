/- Contracts of layer 7: within, kinds, lists of atoms. -/
import Derived.WalkKit
import Derived.WalkSpells
import Derived.WalkLawsBesides
import Derived.Deep.QuietTactic
import Derived.BigQuiet
import Derived.Lib.Hide
import Derived.Test.YtgnjaapjaglleaaProg
import Derived.Test.YtgnjaapjaglleaaP1
namespace Go.Proofs.Ytgnjaapjaglleaa
open Go.RowKit
attribute [local go_sem] GW.cell

theorem f73_c (n lo hi : Int) (w : World) :
    Calls Try.prog 73 #[.int .i64 n, .int .i64 lo, .int .i64 hi] w fun e w' => e = .returned (.bool (withinB n lo hi)) ∧ w = w' := by
  go_enter Try.func73, Try.ntmps73
  go_wp2
  all_goals (go_ret; exact ⟨ret_bool (by simp [withinB]; try omega), rfl⟩)
def kindB (k : Int) : Bool := k == 1 || k == 2
theorem f74_c (k : Int) (w : World) : Calls Try.prog 74 #[.int .i64 k] w fun e w' => e = .returned (.bool (kindB k)) ∧ w = w' := by
  go_enter Try.func74, Try.ntmps74
  go_wp2
  all_goals (go_ret; exact ⟨ret_bool (by simp_all [kindB]), rfl⟩)
theorem f76_c (k : Int) (w : World) : Calls Try.prog 76 #[.int .i64 k] w fun e w' => e = .returned (.bool (kindB k)) ∧ w = w' := by
  go_enter Try.func76, Try.ntmps76
  go_wp2
  all_goals (go_ret; exact ⟨ret_bool (by simp_all [kindB]), rfl⟩)

set_option maxHeartbeats 2000000 in
theorem f89_c (P M : Int) (a : Option Addr) (n c : Nat) (l : List Atom) (w : World) (hl : Atoms w a l) (hn : l.length = n) (hlen : n ≤ 140737488355328) (hP : 0 ≤ P ∧ P ≤ 1000000) (_hM : 0 ≤ M ∧ M ≤ 1000000) :
    Calls Try.prog 89 #[.slice a n c, .int .i64 P, .int .i64 M] w fun e w' => e = .returned (.bool (isListB P M l)) ∧ Ext w w' := by
  subst hn
  go_enter Try.func89, Try.ntmps89
  go_wp2_with fail
  go_loopw [7] (fun i wr => ∃ k : Nat, k ≤ l.length ∧ i = .int .i64 k ∧ Ext w wr ∧ Hid (∀ j, j < k → goodAt P M l j = true)) (fun i _ => l.length - (intOf i).toNat)
  case atStart => exact ⟨0, Nat.zero_le _, rfl, Below.refl _ _, fun j hj => by omega⟩
  case round =>
    obtain ⟨k, hk, rfl, hE, H⟩ := hrel
    by_cases hlt : k < l.length
    · obtain ⟨b, off, rfl, hb, hx, hy⟩ := hl.ext hE k hlt
      rcases Bool.eq_false_or_eq_true (withinB l[k].p (-P) P) with h1 | h1
      · rcases Bool.eq_false_or_eq_true (withinB l[k].m 1 M) with h2 | h2
        · cases k with
          | zero =>
            have Hg := Lib.hid (goodAt_zero hlt h1 h2)
            simp only [Nat.zero_mul, Nat.add_zero] at hx hy
            go_wp2_with fail
            refine wp_region_ext (by kernel_rfl) (by kernel_rfl) ?_
            repeat (go_big_quiet_step ((go_at_call 73; exact quiet_same (f73_c _ _ _ _))))
            refine wpQuiet_nil ?_
            intro w1 hE1
            go_wp2_with fail
            go_roundw
            case rel =>
              refine ⟨1, by omega, by go_num, hE.trans' hE1, fun j hj => ?_⟩
              obtain rfl : j = 0 := by omega
              exact Hg.out
            case measure => simp [intOf]; omega
          | succ q =>
            obtain ⟨b', off', he, hb', hx', hy'⟩ := hl.ext hE q (by omega)
            simp only [Option.some.injEq, Addr.mk.injEq] at he
            obtain ⟨rfl, rfl, -⟩ := he
            by_cases h3 : l[q + 1].p ≤ l[q].p
            · have Hg := Lib.hid (goodAt_down (P := P) (M := M) hlt h3)
              have hd : decide (l[q + 1].p ≤ l[q].p) = true := by simp; omega
              go_wp2_with fail
              refine wp_region_ext (by kernel_rfl) (by kernel_rfl) ?_
              repeat (go_big_quiet_step ((go_at_call 73; exact quiet_same (f73_c _ _ _ _))))
              refine wpQuiet_nil ?_
              intro w1 hE1
              go_wp2_with fail
              go_ret
              exact ⟨ret_bool (isListB_no hlt Hg.out).symm, hE.trans' hE1⟩
            · have Hg := Lib.hid (goodAt_up (P := P) (M := M) hlt h1 h2 (by omega))
              have hd : decide (l[q + 1].p ≤ l[q].p) = false := by simp; omega
              go_wp2_with fail
              refine wp_region_ext (by kernel_rfl) (by kernel_rfl) ?_
              repeat (go_big_quiet_step ((go_at_call 73; exact quiet_same (f73_c _ _ _ _))))
              refine wpQuiet_nil ?_
              intro w1 hE1
              go_wp2_with fail
              go_roundw
              case rel =>
                refine ⟨q + 1 + 1, by omega, by go_num, hE.trans' hE1, fun j hj => ?_⟩
                by_cases e : j = q + 1
                · subst e; exact Hg.out
                · exact H.out j (by omega)
              case measure => simp [intOf]; omega
        · have Hg := Lib.hid (goodAt_mass (P := P) hlt h2)
          go_wp2_with fail
          refine wp_region_ext (by kernel_rfl) (by kernel_rfl) ?_
          repeat (go_big_quiet_step ((go_at_call 73; exact quiet_same (f73_c _ _ _ _))))
          refine wpQuiet_nil ?_
          intro w1 hE1
          go_wp2_with fail
          go_ret
          exact ⟨ret_bool (isListB_no hlt Hg.out).symm, hE.trans' hE1⟩
      · have Hg := Lib.hid (goodAt_place (M := M) hlt h1)
        go_wp2_with fail
        refine wp_region_ext (by kernel_rfl) (by kernel_rfl) ?_
        repeat (go_big_quiet_step ((go_at_call 73; exact quiet_same (f73_c _ _ _ _))))
        refine wpQuiet_nil ?_
        intro w1 hE1
        go_wp2_with fail
        go_ret
        exact ⟨ret_bool (isListB_no hlt Hg.out).symm, hE.trans' hE1⟩
    · obtain rfl : k = l.length := by omega
      go_wp2_with fail
      go_ret
      exact ⟨ret_bool (isListB_yes H.out).symm, hE⟩
end Go.Proofs.Ytgnjaapjaglleaa
