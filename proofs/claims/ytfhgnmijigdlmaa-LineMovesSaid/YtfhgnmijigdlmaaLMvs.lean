/- The checks of moves, walked. -/
import Derived.Test.YtfhgnmijigdlmaaT22
namespace Go.Proofs.Ytfhgnmijigdlmaa
open Go.RowKit
attribute [local go_sem] GW.cell
set_option maxRecDepth 20000 in
set_option maxHeartbeats 16000000 in
theorem moves_walk (w : World) (a1 : Option Addr) (n1 c1 : Nat) (l1 : List Atom) (hl1 : Atoms w a1 l1) (hn1 : l1.length = n1) (a2 : Option Addr) (n2 c2 : Nat) (l2 : List Atom) (hl2 : Atoms w a2 l2) (hn2 : l2.length = n2) (a3 : Option Addr) (n3 c3 : Nat) (M : List Move) (hl3 : Moves w a3 M) (hn3 : M.length = n3) :
    Calls Try.prog 9 #[.agg #[.slice a1 n1 c1, .slice a2 n2 c2], .slice a3 n3 c3] w fun e w' => e = .returned (.bool true) ∧ Below w.heap.size w w' := by
  have hE0 := ext_alloc w (.cells #[.slice a1 n1 c1, .slice a2 n2 c2] 24)
  have HB := Lib.hid (BlkC.new w #[.slice a1 n1 c1, .slice a2 n2 c2] 24)
  have k0 := HB.out.cellv 0 (v := .slice a1 n1 c1) rfl
  have k1 := HB.out.cellv 1 (v := .slice a2 n2 c2) rfl
  cases hL : longB n1 n2
  case true =>
    clear hn1 hn2 hn3
    go_enter Try.func9, Try.ntmps9
    go_wp2_with fail
    generalize w.alloc (.cells #[.slice a1 n1 c1, .slice a2 n2 c2] 24) = w0 at *
    go_wp2_with fail
    refine (f18_c _ _ _ _ _ _ _).mono ?_
    rintro e w' ⟨rfl, rfl⟩
    rw [hL]
    go_wp2_with fail
    refine (f19_c _).mono ?_
    rintro e w9 ⟨rfl, hE9⟩
    go_wp2_with fail
    go_ret
    exact ⟨rfl, hE0.trans' hE9⟩

  obtain ⟨b1, b2⟩ := longB_no hL
  by_cases h3 : 100 < n3
  · have d3 : decide (100 < (n3 : Int)) = true := by simp; omega
    clear hn1 hn2 hn3
    go_enter Try.func9, Try.ntmps9
    go_wp2_with fail
    generalize w.alloc (.cells #[.slice a1 n1 c1, .slice a2 n2 c2] 24) = w0 at *
    go_wp2_with fail
    refine (f18_c _ _ _ _ _ _ _).mono ?_
    rintro e w' ⟨rfl, rfl⟩
    rw [hL]
    go_wp2_with fail
    refine (f19_c _).mono ?_
    rintro e w9 ⟨rfl, hE9⟩
    go_wp2_with fail
    go_ret
    exact ⟨rfl, hE0.trans' hE9⟩

  have d3 : decide (100 < (n3 : Int)) = false := by simp; omega
  have C1 := Lib.hid (fun W (h : Ext w W) => f39_c a1 a2 a3 n1 c1 n2 c2 n3 c3 l1 l2 M W (hl1.ext h) hn1 (by omega) (hl2.ext h) hn2 (by omega) (hl3.ext h) hn3 (by omega))
  have C2 := Lib.hid (fun W (h : Ext w W) => f40_c a1 a2 a3 n1 c1 n2 c2 n3 c3 l1 l2 M W (hl1.ext h) hn1 (by omega) (hl2.ext h) hn2 (by omega) (hl3.ext h) hn3 (by omega))
  clear hn1 hn2 hn3
  generalize chkErr l1 l2 M = E at *
  have hw := ext_alloc w (.cells #[.slice a1 n1 c1, .slice a2 n2 c2] 24)
  have hlt0 : w.heap.size < (w.alloc (.cells #[.slice a1 n1 c1, .slice a2 n2 c2] 24)).heap.size := by simp
  go_enter Try.func9, Try.ntmps9
  go_wp2_with fail
  generalize w.alloc (.cells #[.slice a1 n1 c1, .slice a2 n2 c2] 24) = w0 at *
  go_wp2_with fail
  refine (f18_c _ _ _ _ _ _ _).mono ?_
  rintro e w' ⟨rfl, rfl⟩
  rw [hL]
  go_wp2_with fail
  refine wp_region_ext (by kernel_rfl) (by kernel_rfl) ?_
  repeat (go_big_quiet_step (fail))
  go_big_quiet_step ((go_at_call 39; exact quiet_ext (C1.out _ (hE0.trans' (GW.ext _)))))
  repeat (go_big_quiet_step (fail))
  go_big_quiet_step ((go_at_call 40; exact quiet_ext (C2.out _ (hE0.trans' (GW.ext _)))))
  repeat (go_big_quiet_step (fail))
  go_big_quiet_step ((go_at_call 19; exact quiet_ext (f19_c _)))
  repeat (go_big_quiet_step (fail))
  refine wpQuiet_nil ?_
  intro w5 hX5
  have hE5 := hE0.trans' hX5
  go_wp2_with fail
  go_ret
  exact ⟨rfl, hE5⟩

end Go.Proofs.Ytfhgnmijigdlmaa