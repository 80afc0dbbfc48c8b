/- The iterator over the pixels of a field. -/
import Derived.OwnWalkIn
import Derived.TacticsInMore
import Derived.LoopNIn
import Derived.LoopIn
import Derived.Shelf.RegionOpen
import Derived.Test.YtodlbgncdggimaaT3
import Derived.Test.YtodlbgncdggimaaTail
namespace Go.Proofs.Ytodlbgncdggimaa
open Go.RowKit
attribute [local go_sem] GW.cell Oper.semAt_some wide_depth

def pix (wd : Nat) (k : Nat) : Array Value := #[.int .i64 ((k : Int) % (wd : Int)), .int .i64 ((k : Int) / (wd : Int))]

theorem f63_c (x y : Int) (w : World) :
    Calls Try.prog 63 #[.int .i64 x, .int .i64 y] w fun e w' => e = .returned (.func (.func 89) #[] #[.pointer (some ⟨w.heap.size, 0, none⟩), .pointer (some ⟨w.heap.size + 1, 0, none⟩)]) ∧
      (w.alloc (.cells #[.int .i64 x] 3)).alloc (.cells #[.int .i64 y] 3) = w' := by
  go_enter Try.func63, Try.ntmps63
  go_wp2
  go_ret
  exact ⟨rfl, rfl⟩

theorem ext_grown {a b : World} (h : Ext a b) : a.grownBy b none := ⟨h.os, h.tape, h.output, h.size, fun i hi _ => h.block i hi⟩

set_option maxRecDepth 100000 in
set_option maxHeartbeats 2000000 in
theorem f89_seq (wd ht : Nat) (hw : 1 ≤ wd) (hw' : wd ≤ 1000) (hh : ht ≤ 1000) (b1 b2 : Nat) :
    SeqN Try.prog 89 #[.pointer (some ⟨b1, 0, none⟩), .pointer (some ⟨b2, 0, none⟩)] (pix wd) (wd * ht)
      (fun W => W.cell? ⟨b1, 0, none⟩ = some (.int .i64 wd) ∧ W.cell? ⟨b2, 0, none⟩ = some (.int .i64 ht)) := by
  intro l J Jx W hJ hJx hK hY h0
  obtain ⟨hc1, hc2⟩ := hK _ _ h0
  have hm : wd * ht ≤ 1000000 := by
    have := Nat.mul_le_mul hw' hh; omega
  have hmc : (wd : Int) * (ht : Int) = ((wd * ht : Nat) : Int) := by simp
  have hprod : (wd : Int) * (ht : Int) ≤ 1000000 := by rw [hmc]; omega
  have hprod0 : 0 ≤ (wd : Int) * (ht : Int) := by rw [hmc]; omega
  have Hmc := Lib.hid hmc
  clear hmc
  refine callsIn_of_wp Try.func89 rfl trivial ?_ rfl
  simp only [Try.ntmps89, List.size_toArray, List.length_cons, List.length_nil, Nat.reduceAdd, Nat.reduceSub, Array.replicate_succ, Array.replicate_zero, List.push_toArray, List.append_toArray, List.nil_append, List.cons_append]
  gi_wp2
  gi_loopw [4, 8] (fun _ p wr => ∃ k : Nat, k ≤ wd * ht ∧ p = .int .i64 k ∧ J k wr)
    (fun _ p _ => wd * ht - (intOf p).toNat)
  case atStart => exact ⟨0, by omega, rfl, h0⟩
  case round =>
    obtain ⟨k, hk, rfl, hj⟩ := hrel
    by_cases hlt : k < wd * ht
    · have hlt2 : (k : Int) < (wd : Int) * (ht : Int) := by rw [Hmc.out]; omega
      obtain ⟨hd1, hd2⟩ := hK _ _ hj
      have hb1 : b1 < wr.heap.size := by
        rcases Nat.lt_or_ge b1 wr.heap.size with h | h
        · exact h
        · simp [World.cell?, Array.getElem?_eq_none h] at hd1
      have hw0 : (wd : Int) ≠ 0 := by omega
      have hq0 : 0 ≤ (k : Int) / (wd : Int) := Int.ediv_nonneg (by omega) (by omega)
      have hq1 : (k : Int) / (wd : Int) ≤ (k : Int) := Int.ediv_le_self _ (by omega)
      have ht1 : Int.tmod (k : Int) (wd : Int) = (k : Int) % (wd : Int) := Int.tmod_eq_emod_of_nonneg (by omega)
      have ht2 : Int.tdiv (k : Int) (wd : Int) = (k : Int) / (wd : Int) := Int.tdiv_eq_ediv_of_nonneg (by omega)
      have hq : IntKind.i64.wrap ((k : Int) / (wd : Int)) = (k : Int) / (wd : Int) := IntWalk.i64_in _ (by omega)
      gi_wp2
      refine wpIn_region_ext_tail (r := none) 7 (by kernel_rfl) (by kernel_rfl) (by kernel_rfl) ?_
      simp only [List.take_succ_cons, List.take_zero, List.drop_succ_cons, List.drop_zero]
      repeat (go_big_quiet_step (fail))
      refine wpQuiet_nil ?_
      intro w1 hE1
      have hj2 := hJ _ _ _ hj (ext_grown hE1)
      obtain ⟨fn, tmps, assign, body, hy, hR⟩ := hY k _ hj2 hlt
      simp only [pix] at hy
      have hR2 := hR.mono (R' := fun e B => ∃ b : Bool, e = .returned (.bool b) ∧ Hid (if b then J (k + 1) B else Jx (k + 1) B)) (by
        rintro e B (⟨rfl, h⟩ | ⟨rfl, h⟩)
        · exact ⟨true, rfl, h⟩
        · exact ⟨false, rfl, h⟩)
      clear hR
      gi_wp2
      refine hR2.mono ?_
      rintro e W3 ⟨bb, rfl, hbb⟩
      cases bb with
      | true =>
        have hj3 : J (k + 1) W3 := hbb.out
        gi_wp2
        go_roundw
        case rel => exact ⟨k + 1, by omega, by go_num, hj3⟩
        case measure => simp [intOf]; omega
      | false =>
        have hj3 : Jx (k + 1) W3 := hbb.out
        gi_wp2
        refine bodyPost_ret (results_none rfl _ _ _) rfl ?_
        exact ⟨⟨_, rfl⟩, .inr ⟨k + 1, by omega, hj3⟩⟩
    · obtain rfl : k = wd * ht := by omega
      have hlt2 : ¬ ((wd * ht : Nat) : Int) < (wd : Int) * (ht : Int) := by rw [Hmc.out]; omega
      gi_wp2
      go_end0
      exact ⟨⟨_, rfl⟩, .inl hj⟩
end Go.Proofs.Ytodlbgncdggimaa
