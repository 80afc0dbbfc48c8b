/- Contracts: Validate, of the program and of the reference. -/
import Derived.Test.YtodlbgncdggimaaT1
namespace Go.Proofs.Ytodlbgncdggimaa
open Go.RowKit

set_option maxHeartbeats 1000000 in
theorem f23_c (a : Option Addr) (n c : Nat) (l : List Site) (w : World) (hl : Sites w a l) (hn : l.length = n) (hlen : n ≤ 140737488355328) :
    Calls Try.prog 23 #[.slice a n c] w fun e w' => e = .returned (.int .i64 (errOf (okSites l))) ∧ w = w' := by
  subst hn
  by_cases hn : 1 ≤ l.length ∧ l.length ≤ 5
  · have hb0 : withinB l.length 1 5 = true := by simp [withinB]; omega
    go_enter Try.func23, Try.ntmps23
    go_wp2_with (go_at_call 60; refine (f60_c _ _ _ _).mono ?_; rintro e w' ⟨rfl, rfl⟩)
    go_loop [3] (fun i => ∃ k : Nat, k ≤ l.length ∧ i = .int .i64 k ∧ Hid (∀ j, (hj : j < k) → (hj' : j < l.length) → okSite l[j] = true)) (fun i => l.length - (intOf i).toNat)
    case atStart => exact ⟨0, Nat.zero_le _, rfl, fun j hj => by omega⟩
    case round =>
      obtain ⟨k, hk, rfl, H⟩ := hrel
      by_cases hlt : k < l.length
      · obtain ⟨b, off, rfl, hb, hx, hy, hw⟩ := hl k hlt
        go_wp2_with (go_at_call 60; refine (f60_c _ _ _ _).mono ?_; rintro e w' ⟨rfl, rfl⟩)
        case roundEnd =>
          have hs : okSite l[k] = true := by simp_all [okSite]
          go_round
          case rel =>
            refine ⟨k + 1, by omega, by go_num, fun j hj hj' => ?_⟩
            by_cases e : j = k
            · subst e; exact hs
            · exact H.out j (by omega) hj'
          case measure => simp [intOf]; omega
        all_goals
          have hs : okSite l[k] = false := by simp_all [okSite]
          go_ret
          exact ⟨ret_int (by rw [okSites_no hlt hs]; rfl), rfl⟩
      · obtain rfl : k = l.length := by omega
        go_wp2_with fail
        go_ret
        exact ⟨ret_int (by rw [okSites_yes hn.1 hn.2 H.out]; rfl), rfl⟩
  · have hb0 : withinB l.length 1 5 = false := by simp [withinB]; omega
    go_enter Try.func23, Try.ntmps23
    go_wp2_with (go_at_call 60; refine (f60_c _ _ _ _).mono ?_; rintro e w' ⟨rfl, rfl⟩)
    go_ret
    refine ⟨ret_int ?_, rfl⟩
    simp [errOf, okSites]
    omega

theorem ints_new2 (w : World) (x y : Int) (T : TypeId) (B : Nat) (hB : w.heap.size = B) : Ints (w.alloc (.cells #[.int .i64 x, .int .i64 y] T)) (some ⟨B, 0, none⟩) [x, y] := by
  subst hB
  intro j hj
  refine ⟨_, _, rfl, by simp, ?_⟩
  match j, hj with
  | 0, _ => simp
  | 1, _ => simp
theorem ints_new1 (w : World) (x : Int) (T : TypeId) (B : Nat) (hB : w.heap.size = B) : Ints (w.alloc (.cells #[.int .i64 x] T)) (some ⟨B, 0, none⟩) [x] := by
  subst hB
  intro j hj
  refine ⟨_, _, rfl, by simp, ?_⟩
  match j, hj with
  | 0, _ => simp
theorem allIn2 (m x y : Int) : allIn m [x, y] = (withinB x (-m) m && withinB y (-m) m) := by simp [allIn]
theorem allIn1 (m x : Int) : allIn m [x] = withinB x (-m) m := by simp [allIn]

set_option maxHeartbeats 1000000 in
theorem f22_c (a : Option Addr) (n c : Nat) (l : List Site) (w : World) (hl : Sites w a l) (hn : l.length = n) (hlen : n ≤ 140737488355328) :
    Calls Try.prog 22 #[.slice a n c] w fun e w' => e = .returned (.int .i64 (errOf (okSites l))) ∧ Ext w w' := by
  subst hn
  by_cases hn : 1 ≤ l.length ∧ l.length ≤ 5
  · obtain ⟨hn1, hn5⟩ := hn
    go_enter Try.func22, Try.ntmps22
    go_wp2_with fail
    go_loopw [4, 15] (fun _ i wr => ∃ k : Nat, k ≤ l.length ∧ i = .int .i64 k ∧ Hid (∀ j, (hj : j < k) → (hj' : j < l.length) → okSite l[j] = true) ∧ Ext w wr) (fun _ i _ => l.length - (intOf i).toNat)
    case atStart => exact ⟨0, Nat.zero_le _, rfl, fun j hj => by omega, Below.refl _ _⟩
    case round =>
      obtain ⟨k, hk, rfl, H, hE⟩ := hrel
      by_cases hlt : k < l.length
      · obtain ⟨b, off, rfl, hb, hx, hy, hw⟩ := hl.ext hE k hlt
        go_wp2_with fail
        refine (f57_c 30 _ 2 2 [l[k].x, l[k].y] _ (ints_new2 _ _ _ _ _ (by simp)) (by rfl) (by omega) (by omega) (by omega)).mono ?_
        rintro e w1 ⟨rfl, hE1⟩
        have hc1 := hE1.cell' (bl := wr.heap.size) (off := 2) (by simp; omega)
        simp at hc1
        have hsz := hE1.size
        simp at hsz
        have hE2 : Ext w w1 := hE.trans' (Ext.trans' (((Below.refl _ wr).alloc (Nat.le_refl _) _).alloc (by simp) _) hE1)
        by_cases hA : allIn 30 [l[k].x, l[k].y] = true
        · go_wp2_with fail
          refine (f57_c 20000 _ 1 1 [l[k].w] _ (ints_new1 _ _ _ _ (by simp)) (by rfl) (by omega) (by omega) (by omega)).mono ?_
          rintro e w2 ⟨rfl, hE3⟩
          have hE4 : Ext w w2 := hE2.trans' (Ext.trans' ((Below.refl _ w1).alloc (Nat.le_refl _) _) hE3)
          have hs : okSite l[k] = allIn 20000 [l[k].w] := by rw [allIn2] at hA; rw [allIn1]; simp_all [okSite]
          have Hs := Lib.hid hs
          clear hs
          go_wp2_with fail
          · have hy : (!allIn 20000 [l[k].w]) = true := by assumption
            go_ret
            exact ⟨ret_int (by rw [okSites_no hlt (by rw [Hs.out]; simpa using hy)]; rfl), hE4⟩
          · have hy : (!allIn 20000 [l[k].w]) = false := by assumption
            go_roundw
            case rel =>
              refine ⟨k + 1, by omega, by go_num, fun j hj hj' => ?_, hE4⟩
              by_cases e : j = k
              · subst e; rw [Hs.out]; simpa using hy
              · exact H.out j (by omega) hj'
            case measure => simp [intOf]; omega
        · have hs : okSite l[k] = false := by rw [allIn2] at hA; simp_all [okSite]
          have Hs := Lib.hid hs
          clear hs
          have hA' : allIn 30 [l[k].x, l[k].y] = false := by simpa using hA
          clear hA
          go_wp2_with fail
          go_ret
          exact ⟨ret_int (by rw [okSites_no hlt Hs.out]; rfl), hE2⟩
      · obtain rfl : k = l.length := by omega
        go_wp2_with fail
        go_ret
        exact ⟨ret_int (by rw [okSites_yes hn1 hn5 H.out]; rfl), hE⟩
  · have hno : okSites l = false := by simp [okSites]; omega
    have Hno := Lib.hid hno
    clear hno
    go_enter Try.func22, Try.ntmps22
    go_wp2_with fail
    all_goals first
      | (exfalso; omega)
      | (go_ret; exact ⟨ret_int (by rw [Hno.out]; rfl), Below.refl _ _⟩)
end Go.Proofs.Ytodlbgncdggimaa
