/- RoadImproves: the law's walk. -/
import Derived.Test.YtbejgbflipoboaaT30
import Derived.Test.YtbejgbflipoboaaT25
namespace Go.Proofs.Ytbejgbflipoboaa
open Go.RowKit
attribute [local go_sem] GW.cell
theorem improves {M : Nat} {R : List Road} {y x l : List Int} (h : flowErr (M : Int) R y x = 0) (hr : RoundOf M R x l) :
    okF (M : Int) R y = true ∧ excErr (M : Int) R y = 0 ∧ ((l = [] ∧ ¬ lstF (M : Int) R y < flowV (M : Int) R y x) ∨ (0 < l.length ∧ lstF (M : Int) R y < flowV (M : Int) R y x ∧ rndErr (M : Int) R y x l = 0 ∧ rndV (M : Int) R y x l < 0 ∧ l.length ≤ 6)) := by
  have he := flow_exc0 h
  have hf := (flowErr_iff he).1 h
  have hok := netErr_ok (excErr_ok he).1
  have hM := hok.n1
  have hv : flowV (M : Int) R y x = costTo R x R.length := flowV_yes h
  refine ⟨(okF_iff he).2 ⟨x, hf⟩, he, ?_⟩
  rcases hr with ⟨rfl, hl⟩ | ⟨_, v, l0, go, rfl⟩
  · refine .inl ⟨rfl, ?_⟩
    rw [hv, rnd_none he hf hl]; omega
  · have hlen := go.len
    have hin : ∀ s ∈ l0.reverse, StepIn R.length s := fun s hs => go.in_ s (List.mem_reverse.1 hs)
    have hre : rndErr (M : Int) R y x l0.reverse = 0 := rndErr_mk h hin (by rw [List.length_reverse]; omega) (by rw [List.length_reverse]; omega) go.rnd
    refine .inr ⟨by rw [List.length_reverse]; omega, ?_, hre, ?_, by rw [List.length_reverse]; omega⟩
    · rw [hv]; exact rnd_some he hf hin go.rnd go.neg
    · rw [rndV_yes hre]; exact go.neg
set_option maxRecDepth 20000 in
set_option maxHeartbeats 8000000 in
theorem lawImp (w : World) (N : Int) (a : Option Addr) (n c : Nat) (R : List Road) (hl : Roads w a R) (hn : R.length = n) (a1 : Option Addr) (n1 c1 : Nat) (y : List Int) (hy : Ints w a1 y) (hn1 : y.length = n1) (a2 : Option Addr) (n2 c2 : Nat) (x : List Int) (hx : Ints w a2 x) (hn2 : x.length = n2) :
    Calls Try.prog 13 #[.agg #[.int .i64 N, .slice a n c, .slice a1 n1 c1], .slice a2 n2 c2] w fun e w' => e = .returned (.bool true) ∧ Ext w w' := by
  subst hn hn1 hn2
  have hE0 := ext_alloc w (.cells #[.int .i64 N, .slice a R.length c, .slice a1 y.length c1] 27)
  have HB := Lib.hid (BlkC.new w #[.int .i64 N, .slice a R.length c, .slice a1 y.length c1] 27)
  have hz1 := HB.out.lt
  have g0 := HB.out.cellv 0 (v := .int .i64 N) rfl
  have g1 := HB.out.cellv 1 (v := .slice a R.length c) rfl
  have g2 := HB.out.cellv 2 (v := .slice a1 y.length c1) rfl
  go_enter Try.func13, Try.ntmps13
  go_wp2_with fail
  generalize (w.alloc (.cells #[.int .i64 N, .slice a R.length c, .slice a1 y.length c1] 27)) = w0 at *
  refine (f17_c N a R.length c a1 y.length c1 _).mono ?_
  rintro e w1 ⟨rfl, hX1⟩
  have hE1 := hE0.trans' hX1
  rcases Bool.eq_false_or_eq_true (decide (60 < (R.length : Int)) || decide (60 < (y.length : Int))) with h1 | h1
  · rw [h1]
    go_wp2_with fail
    refine (f19_c _).mono ?_
    rintro e w9 ⟨rfl, hX9⟩
    go_wp2_with fail
    go_ret
    exact ⟨rfl, hE1.trans' hX9⟩
  rw [h1]
  rw [Bool.or_eq_false_iff] at h1
  have h2 := of_decide_eq_false h1.1
  have h3 := of_decide_eq_false h1.2
  clear h1
  clear g0 g1 g2 hz1
  have g0 := (HB.out.ext hX1).cellv 0 (v := .int .i64 N) rfl
  have g1 := (HB.out.ext hX1).cellv 1 (v := .slice a R.length c) rfl
  have g2 := (HB.out.ext hX1).cellv 2 (v := .slice a1 y.length c1) rfl
  have hz1 := (HB.out.ext hX1).lt
  go_wp2_with fail
  refine (f18_c a2 x.length c2 _).mono ?_
  rintro e w8 ⟨rfl, rfl⟩
  by_cases hb_x : 60 < x.length
  · rw [decide_eq_true (show (60 : Int) < (x.length : Int) by omega)]
    go_wp2_with fail
    refine (f19_c _).mono ?_
    rintro e w9 ⟨rfl, hX9⟩
    go_wp2_with fail
    go_ret
    exact ⟨rfl, hE1.trans' hX9⟩
  rw [decide_eq_false (show ¬ (60 : Int) < (x.length : Int) by omega)]
  have C50 := Lib.hid (fun a3 c3 l W (hE : Ext w W) (hp : Ints W a3 l) (hpl : l.length ≤ 1000000) => f50_c N a R.length c R a1 y.length c1 y a2 x.length c2 x a3 l.length c3 l W (hl.ext hE) rfl (by omega) (hy.ext hE) rfl (by omega) (hx.ext hE) rfl (by omega) hp rfl hpl)
  go_wp2_with fail
  refine (f45_c N a R.length c R a1 y.length c1 y a2 x.length c2 x _ (hl.ext hE1) rfl (by omega) (hy.ext hE1) rfl (by omega) (hx.ext hE1) rfl (by omega)).mono ?_
  rintro e w2 ⟨a3, c3, l, rfl, hi, hr1, hr2, hX2⟩
  have HI := Lib.hid hi
  have Hr1 := Lib.hid hr1
  have Hr2 := Lib.hid hr2
  have hE2 := hE1.trans' hX2
  have hY2 := hX1.trans' hX2
  clear hi hr1 hr2
  clear g0 g1 g2 hz1
  have g0 := (HB.out.ext hY2).cellv 0 (v := .int .i64 N) rfl
  have g1 := (HB.out.ext hY2).cellv 1 (v := .slice a R.length c) rfl
  have g2 := (HB.out.ext hY2).cellv 2 (v := .slice a1 y.length c1) rfl
  have hz1 := (HB.out.ext hY2).lt
  go_wp2_with fail
  refine (f21_c N a R.length c R a1 y.length c1 y a2 x.length c2 x _ (hl.ext hE2) rfl (by omega) (hy.ext hE2) rfl (by omega) (hx.ext hE2) rfl (by omega)).mono ?_
  rintro e w3 ⟨rfl, hX3⟩
  have hE3 := hE2.trans' hX3
  have hY3 := hY2.trans' hX3
  have HI3 := Lib.hid (HI.out.ext hX3)
  clear g0 g1 g2 hz1
  have g0 := (HB.out.ext hY3).cellv 0 (v := .int .i64 N) rfl
  have g1 := (HB.out.ext hY3).cellv 1 (v := .slice a R.length c) rfl
  have g2 := (HB.out.ext hY3).cellv 2 (v := .slice a1 y.length c1) rfl
  have hz1 := (HB.out.ext hY3).lt
  by_cases h0 : flowErr N R y x = 0
  case neg =>
    have hb : (flowErr N R y x != 0) = true := by simp [h0]
    have hEE : (flowErr N R y x != flowErr N R y x) = false := by simp
    obtain rfl := Hr1.out h0
    clear h0 Hr1 Hr2 C50
    generalize flowErr N R y x = E at *
    generalize flowV N R y x = V at *
    rw [show decide (0 < ([] : List Int).length) = false from rfl]
    go_wp2_with fail
    refine (f19_c _).mono ?_
    rintro e w9 ⟨rfl, hX9⟩
    go_wp2_with fail
    go_ret
    exact ⟨rfl, hE3.trans' hX9⟩
  obtain ⟨M, rfl⟩ : ∃ M : Nat, N = M := by
    obtain ⟨M, h, _⟩ := flow_right h0
    exact ⟨M, h⟩
  have him := improves h0 (by have := Hr2.out h0; rwa [Int.toNat_natCast] at this)
  rw [h0]
  clear Hr1 Hr2 h0
  obtain ⟨i1, i2, i3⟩ := him
  have I3 := Lib.hid i3
  have C27 := Lib.hid (fun W (hE : Ext w W) => f27_c (M : Int) a R.length c R a1 y.length c1 y W (hl.ext hE) rfl (by omega) (hy.ext hE) rfl (by omega))
  rw [i1, i2] at C27
  clear i1 i2 i3
  generalize flowV (M : Int) R y x = V at *
  generalize lstF (M : Int) R y = L at *
  go_wp2_with fail
  refine (C27.out _ hE3).mono ?_
  rintro e w4 ⟨rfl, hX4⟩
  have hE4 := hE3.trans' hX4
  have hY4 := hY3.trans' hX4
  have HI4 := Lib.hid (HI3.out.ext hX4)
  clear g0 g1 g2 hz1
  have g0 := (HB.out.ext hY4).cellv 0 (v := .int .i64 (M : Int)) rfl
  have g1 := (HB.out.ext hY4).cellv 1 (v := .slice a R.length c) rfl
  have g2 := (HB.out.ext hY4).cellv 2 (v := .slice a1 y.length c1) rfl
  have hz1 := (HB.out.ext hY4).lt
  rcases I3.out with ⟨rfl, h1⟩ | ⟨h1, h2, h3, h4, h5⟩
  · have hd : decide (L < V) = false := decide_eq_false (by omega)
    rw [show decide (0 < ([] : List Int).length) = false from rfl]
    clear h1 C50
    go_wp2_with fail
    refine (f19_c _).mono ?_
    rintro e w9 ⟨rfl, hX9⟩
    go_wp2_with fail
    go_ret
    exact ⟨rfl, hE4.trans' hX9⟩
  · have hd : decide (L < V) = true := decide_eq_true h2
    rw [decide_eq_true h1]
    have C50' := Lib.hid (C50.out a3 c3 l _ hE4 HI4.out (by omega))
    rw [h3] at C50'
    have hd2 : decide (rndV (M : Int) R y x l < 0) = true := decide_eq_true h4
    clear h1 h2 h3 h4 C50
    generalize rndV (M : Int) R y x l = T at *
    go_wp2_with fail
    refine C50'.out.mono ?_
    rintro e w5 ⟨rfl, hX5⟩
    have hE5 := hE4.trans' hX5
    go_wp2_with fail
    refine (f19_c _).mono ?_
    rintro e w9 ⟨rfl, hX9⟩
    go_wp2_with fail
    go_ret
    exact ⟨rfl, hE5.trans' hX9⟩
end Go.Proofs.Ytbejgbflipoboaa
