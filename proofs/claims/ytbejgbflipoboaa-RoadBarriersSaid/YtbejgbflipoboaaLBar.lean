/- RoadBarriers: the law's walk. -/
import Derived.Test.YtbejgbflipoboaaT34
import Derived.Test.YtbejgbflipoboaaT33
import Derived.Test.YtbejgbflipoboaaT12
import Derived.Test.YtbejgbflipoboaaT13
namespace Go.Proofs.Ytbejgbflipoboaa
open Go.RowKit
attribute [local go_sem] GW.cell
set_option maxRecDepth 20000 in
set_option maxHeartbeats 8000000 in
theorem lawBar (w : World) (N : Int) (a : Option Addr) (n c : Nat) (R : List Road) (hl : Roads w a R) (hn : R.length = n) (a1 : Option Addr) (n1 c1 : Nat) (y : List Int) (hy : Ints w a1 y) (hn1 : y.length = n1) (a2 : Option Addr) (n2 c2 : Nat) (p : List Int) (hp : Ints w a2 p) (hn2 : p.length = n2) :
    Calls Try.prog 16 #[.agg #[.int .i64 N, .slice a n c, .slice a1 n1 c1], .slice a2 n2 c2] w fun e w' => e = .returned (.bool true) ∧ Ext w w' := by
  subst hn hn1 hn2
  have hE0 := ext_alloc w (.cells #[.int .i64 N, .slice a R.length c, .slice a1 y.length c1] 27)
  have HB := Lib.hid (BlkC.new w #[.int .i64 N, .slice a R.length c, .slice a1 y.length c1] 27)
  have hz1 := HB.out.lt
  have g0 := HB.out.cellv 0 (v := .int .i64 N) rfl
  have g1 := HB.out.cellv 1 (v := .slice a R.length c) rfl
  have g2 := HB.out.cellv 2 (v := .slice a1 y.length c1) rfl
  go_enter Try.func16, Try.ntmps16
  go_wp2_with fail
  generalize (w.alloc (.cells #[.int .i64 N, .slice a R.length c, .slice a1 y.length c1] 27)) = w0 at *
  refine (f17_c N a R.length c a1 y.length c1 _).mono ?_
  rintro e w1 ⟨rfl, hX1⟩
  have hE1 := hE0.trans' hX1
  rcases Bool.eq_false_or_eq_true (decide (60 < (R.length : Int)) || decide (60 < (y.length : Int))) with h1 | h1
  · rw [h1]
    go_wp2_with fail
    refine (f19_c _).mono ?_
    rintro e w9 ⟨rfl, hX9⟩
    go_wp2_with fail
    go_ret
    exact ⟨rfl, hE1.trans' hX9⟩
  rw [h1]
  rw [Bool.or_eq_false_iff] at h1
  have h2 := of_decide_eq_false h1.1
  have h3 := of_decide_eq_false h1.2
  clear h1
  clear g0 g1 g2 hz1
  have g0 := (HB.out.ext hX1).cellv 0 (v := .int .i64 N) rfl
  have g1 := (HB.out.ext hX1).cellv 1 (v := .slice a R.length c) rfl
  have g2 := (HB.out.ext hX1).cellv 2 (v := .slice a1 y.length c1) rfl
  have hz1 := (HB.out.ext hX1).lt
  go_wp2_with fail
  refine (f18_c a2 p.length c2 _).mono ?_
  rintro e w8 ⟨rfl, rfl⟩
  by_cases hb_p : 60 < p.length
  · rw [decide_eq_true (show (60 : Int) < (p.length : Int) by omega)]
    go_wp2_with fail
    refine (f19_c _).mono ?_
    rintro e w9 ⟨rfl, hX9⟩
    go_wp2_with fail
    go_ret
    exact ⟨rfl, hE1.trans' hX9⟩
  rw [decide_eq_false (show ¬ (60 : Int) < (p.length : Int) by omega)]
  have C43 := Lib.hid (fun x' : GW w1 => f43_c N a R.length c R a1 y.length c1 y a2 p.length c2 p x'.world (hl.ext (hE1.trans' x'.ext)) rfl (by omega) (hy.ext (hE1.trans' x'.ext)) rfl (by omega) (hp.ext (hE1.trans' x'.ext)) rfl (by omega))
  have C55 := Lib.hid (fun x' : GW w1 => f55_c N a R.length c R a1 y.length c1 y a2 p.length c2 p x'.world (hl.ext (hE1.trans' x'.ext)) rfl (by omega) (hy.ext (hE1.trans' x'.ext)) rfl (by omega) (hp.ext (hE1.trans' x'.ext)) rfl (by omega))
  have C55b := Lib.hid (fun a3 c3 l W (hE : Ext w W) (hq : Ints W a3 l) (hql : l.length ≤ 1000000) => f55_c N a R.length c R a1 y.length c1 y a3 l.length c3 l W (hl.ext hE) rfl (by omega) (hy.ext hE) rfl (by omega) hq rfl hql)
  have hBB : (barErr N R y p != barErr N R y p) = false := by simp
  have hbl := barL_length (N := N) (R := R) (x := y)
  have HBn := Lib.hid (fun h => bar_none (N := N) (R := R) (x := y) h)
  have HBo := Lib.hid (fun h => bar_ok (N := N) (R := R) (x := y) h)
  have HBF : Hid (barF N R y = (decide (excErr N R y = 0) && !okF N R y)) := Lib.hid rfl
  go_wp2_with fail
  refine wp_region_ext (by kernel_rfl) (by kernel_rfl) ?_
  repeat (go_big_quiet_step (first | (go_at_call 43; exact quiet_ext (C43.out _)) | (go_at_call 55; exact quiet_ext (C55.out _))))
  refine wpQuiet_nil ?_
  intro w2 hX2
  have hE2 := hE1.trans' hX2
  have hY2 := hX1.trans' hX2
  clear hBB C43 C55
  clear g0 g1 g2 hz1
  have g0 := (HB.out.ext hY2).cellv 0 (v := .int .i64 N) rfl
  have g1 := (HB.out.ext hY2).cellv 1 (v := .slice a R.length c) rfl
  have g2 := (HB.out.ext hY2).cellv 2 (v := .slice a1 y.length c1) rfl
  have hz1 := (HB.out.ext hY2).lt
  go_wp2_with fail
  refine (f41_c N a R.length c R a1 y.length c1 y _ (hl.ext hE2) rfl (by omega) (hy.ext hE2) rfl (by omega)).mono ?_
  rintro e w3 ⟨a3, c3, rfl, hI3, hX3⟩
  have HI3 := Lib.hid hI3
  have hE3 := hE2.trans' hX3
  have hY3 := hY2.trans' hX3
  clear hI3
  clear g0 g1 g2 hz1
  have g0 := (HB.out.ext hY3).cellv 0 (v := .int .i64 N) rfl
  have g1 := (HB.out.ext hY3).cellv 1 (v := .slice a R.length c) rfl
  have g2 := (HB.out.ext hY3).cellv 2 (v := .slice a1 y.length c1) rfl
  have hz1 := (HB.out.ext hY3).lt
  go_wp2_with fail
  refine (f30_c N a R.length c R a1 y.length c1 y _ (hl.ext hE3) rfl (by omega) (hy.ext hE3) rfl (by omega)).mono ?_
  rintro e w4 ⟨rfl, hX4⟩
  have hE4 := hE3.trans' hX4
  have hY4 := hY3.trans' hX4
  have HI4 := Lib.hid (HI3.out.ext hX4)
  clear g0 g1 g2 hz1
  have g0 := (HB.out.ext hY4).cellv 0 (v := .int .i64 N) rfl
  have g1 := (HB.out.ext hY4).cellv 1 (v := .slice a R.length c) rfl
  have g2 := (HB.out.ext hY4).cellv 2 (v := .slice a1 y.length c1) rfl
  have hz1 := (HB.out.ext hY4).lt
  have hEE : (excErr N R y != excErr N R y) = false := by simp
  have C1 := Lib.hid (C55b.out a3 c3 (barL N R y) _ hE4 HI4.out (by omega))
  clear C55b
  rcases Bool.eq_false_or_eq_true (barF N R y) with hb | hb
  case inl =>
    have hF := HBF.out
    rw [hb] at hF
    have hF2 := hF.symm
    rw [Bool.and_eq_true, decide_eq_true_eq, Bool.not_eq_true'] at hF2
    obtain ⟨k1, k2⟩ := hF2
    have C2 : Hid (Calls Try.prog 55 _ w4 fun e w' => e = .returned (.int .i64 0) ∧ Ext w4 w') := Lib.hid (by have := C1.out; rw [HBo.out hb] at this; exact this)
    rw [hb, k1, k2]
    clear hb hF k1 k2 C1 HBn HBo HBF hEE
    generalize barL N R y = B at *
    go_wp2_with fail
    refine C2.out.mono ?_
    rintro e w5 ⟨rfl, hX5⟩
    have hE5 := hE4.trans' hX5
    go_wp2_with fail
    refine (f19_c _).mono ?_
    rintro e w9 ⟨rfl, hX9⟩
    go_wp2_with fail
    go_ret
    exact ⟨rfl, hE5.trans' hX9⟩
  have HN := HBn.out hb
  have hF := HBF.out
  rw [hb] at hF
  rw [hb, HN]
  clear HN C1 HBn HBo HBF
  by_cases h0 : excErr N R y = 0
  case neg =>
    have hd : (excErr N R y == 0) = false := by simp [h0]
    clear h0 hF hb
    generalize excErr N R y = E at *
    generalize okF N R y = o at *
    go_wp2_with fail
    refine (f19_c _).mono ?_
    rintro e w9 ⟨rfl, hX9⟩
    go_wp2_with fail
    go_ret
    exact ⟨rfl, hE4.trans' hX9⟩
  have k2 : okF N R y = true := by
    rw [decide_eq_true h0, Bool.true_and] at hF
    cases h : okF N R y with
    | true => rfl
    | false => rw [h] at hF; simp at hF
  rw [h0, k2]
  clear h0 hF hb k2 hEE
  go_wp2_with fail
  refine (f19_c _).mono ?_
  rintro e w9 ⟨rfl, hX9⟩
  go_wp2_with fail
  go_ret
  exact ⟨rfl, hE4.trans' hX9⟩
end Go.Proofs.Ytbejgbflipoboaa
