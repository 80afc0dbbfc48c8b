/- Contracts of roads: ContainsFunc with x != 0; the first example's net. -/
import Derived.Test.YtbejgbflipoboaaP2
import Derived.Test.YtbejgbflipoboaaT8
namespace Go.Proofs.Ytbejgbflipoboaa
open Go.RowKit
attribute [local go_sem] GW.cell
theorem f86_c (n : Int) (w : World) :
    Calls Try.prog 86 #[.int .i64 n] w fun e w' => e = .returned (.bool (n != 0)) ∧ w = w' := by
  go_enter Try.func86, Try.ntmps86
  go_wp2
  all_goals (go_ret; exact ⟨rfl, rfl⟩)
theorem f93_86  (a : Option Addr) (c : Nat) (l : List Int) (w : World) (hl : Ints w a l) (hlen : l.length ≤ 140737488355328)  :
    Calls Try.prog 93 #[.slice a l.length c, .func (.func 86) #[] #[]] w fun e w' => e = .returned (.int .i64 (idxP (fun n => n != 0) l)) ∧ w = w' := by
  go_enter Try.func93, Try.ntmps93
  go_wp2_with fail
  go_loop [5, 8] (fun _ i => ∃ k : Nat, k ≤ l.length ∧ i = .int .i64 k ∧ Hid (∀ j, j < k → (fun n => n != 0) (l[j]?.getD 0) = false)) (fun _ i => l.length - (intOf i).toNat)
  case atStart => exact ⟨0, Nat.zero_le _, rfl, fun j hj => by omega⟩
  case round =>
    obtain ⟨k, hk, rfl, H⟩ := hrel
    by_cases hlt : k < l.length
    · obtain ⟨b, off, rfl, hb, hcc⟩ := hl k hlt
      rw [List.getElem?_eq_getElem hlt, Option.getD_some] at hcc
      go_wp2_with (go_at_call 86; refine (f86_c _ _).mono ?_; rintro e w' ⟨rfl, rfl⟩)
      · have hy : (l[k] != 0) = true := by assumption
        go_ret
        exact ⟨ret_int (idxP_hit (p := (fun n => n != 0)) hlt H.out hy).symm, rfl⟩
      · have hy : (l[k] != 0) = false := by assumption
        go_round
        case rel =>
          refine ⟨k + 1, by omega, by go_num, fun j hj => ?_⟩
          by_cases e : j = k
          · subst e; rw [List.getElem?_eq_getElem hlt]; exact hy
          · exact H.out j (by omega)
        case measure => simp [intOf]; omega
    · obtain rfl : k = l.length := by omega
      go_wp2_with fail
      go_ret
      exact ⟨ret_int (idxP_miss (p := (fun n => n != 0)) H.out).symm, rfl⟩
theorem f85_86  (a : Option Addr) (c : Nat) (l : List Int) (w : World) (hl : Ints w a l) (hlen : l.length ≤ 140737488355328)  :
    Calls Try.prog 85 #[.slice a l.length c, .func (.func 86) #[] #[]] w fun e w' => e = .returned (.bool (l.any (fun n => n != 0))) ∧ w = w' := by
  go_enter Try.func85, Try.ntmps85
  go_wp2_with (go_at_call 93; refine (f93_86 _ _ _ _ hl hlen ).mono ?_; rintro e w' ⟨rfl, rfl⟩)
  go_ret
  exact ⟨ret_bool (idxP_geq _ _), rfl⟩


theorem roads_new (w : World) (T : TypeId) : Roads (w.alloc (.cells #[.int .i64 0, .int .i64 1, .int .i64 1, .int .i64 2, .int .i64 1, .int .i64 2, .int .i64 1, .int .i64 2, .int .i64 0, .int .i64 2, .int .i64 5, .int .i64 9] T)) (some ⟨w.heap.size, 0, none⟩) net1 := by
  intro j hj
  refine ⟨_, _, rfl, by simp, ?_⟩
  match j, hj with
  | 0, _ => simp [net1]
  | 1, _ => simp [net1]
  | 2, _ => simp [net1]
set_option maxHeartbeats 2000000 in
theorem f56_c (w : World) : Calls Try.prog 56 #[] w fun e w' => ∃ b c, e = .returned (.agg #[.int .i64 3, .slice (some ⟨b, 0, none⟩) 3 c]) ∧ Roads w' (some ⟨b, 0, none⟩) net1 ∧ Ext w w' := by
  go_enter Try.func56, Try.ntmps56
  go_wp2_with fail
  refine bodyPost_ret (v := .agg #[.int .i64 3, .slice (some ⟨w.heap.size + 1, 0, none⟩) 3 3]) (by simp [results, Try.results56, go_sem]) rfl ⟨_, _, rfl, ?_, (ext_alloc _ _).trans' (ext_alloc _ _)⟩
  have := roads_new (w.alloc (.cells #[.int .i64 3, .slice (some ⟨w.heap.size + 1, 0, none⟩) 3 3] 24)) 55
  simpa using this
end Go.Proofs.Ytbejgbflipoboaa
