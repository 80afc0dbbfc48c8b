/- RoadDistances: the law's walk. -/
import Derived.Test.YtbejgbflipoboaaT12
import Derived.Test.YtbejgbflipoboaaT23
namespace Go.Proofs.Ytbejgbflipoboaa
open Go.RowKit
attribute [local go_sem] GW.cell
theorem dist_len {N : Int} {R : List Road} {s0 : Int} : (distV N R s0).length ≤ 6 := by
  unfold distV
  split
  · rename_i h
    obtain ⟨h1, _⟩ := distErr_ok h
    have := h1.n1
    rw [distL_length, distW_length]
    omega
  · simp
/-- what the law asks of a road -/
structure DistR (N : Int) (R : List Road) (s0 : Int) (L : List Int) : Prop where
  len : (L.length : Int) = N
  in_ : ∀ k, (h : k < R.length) → 0 ≤ R[k].fr ∧ R[k].fr < L.length ∧ 0 ≤ R[k].to ∧ R[k].to < L.length ∧ 0 ≤ R[k].ln ∧ R[k].ln ≤ 99
  bd : ∀ v, v < L.length → -1 ≤ gi L v ∧ gi L v ≤ 495
  road : ∀ k, (h : k < R.length) → 0 ≤ gi L R[k].fr.toNat → 0 ≤ gi L R[k].to.toNat ∧ gi L R[k].to.toNat ≤ gi L R[k].fr.toNat + R[k].ln
  at_ : 0 ≤ s0 ∧ s0 < L.length
  zero : gi L s0.toNat = 0
theorem dist_r {N : Int} {R : List Road} {s0 : Int} (h : distErr N R s0 = 0) : DistR N R s0 (distV N R s0) := by
  obtain ⟨h1, h2, h3⟩ := distErr_ok h
  have hN := h1.n1
  obtain ⟨M, rfl⟩ := Int.eq_ofNat_of_zero_le (show 0 ≤ N by omega)
  obtain ⟨k, rfl⟩ := Int.eq_ofNat_of_zero_le h2
  rw [distV_yes h]
  have hk : k < M := by omega
  have hd := dist_ok h1 hk
  have hl : (distL M R k).length = M := by rw [distL_length, distW_length]
  have hu : ∀ v, v < M → (gi (distW M R k) v = farW ∧ gi (distL M R k) v = -1) ∨ (0 ≤ gi (distW M R k) v ∧ gi (distW M R k) v ≤ 495 ∧ gi (distL M R k) v = gi (distW M R k) v) := fun v hv => by
    have h5 := hd.near v hv
    rw [distL_at hv]
    unfold unfar farW at *
    rcases h5 with h5 | h5
    · exact .inl ⟨h5, if_pos h5⟩
    · exact .inr ⟨h5.1, h5.2, if_neg (by omega)⟩
  refine ⟨by omega, fun q hq => ?_, fun v hv => ?_, fun q hq h5 => ?_, ⟨by omega, by omega⟩, ?_⟩
  · have a1 := h1.fr q hq
    have a2 := h1.to q hq
    have a3 := h1.ln q hq
    omega
  · have := hu v (by omega); omega
  · have a1 := h1.fr q hq
    have a2 := h1.to q hq
    have a3 := h1.ln q hq
    have b1 := hu R[q].fr.toNat (by omega)
    have b2 := hu R[q].to.toNat (by omega)
    have b3 := hd.road q hq
    unfold farW at *
    have b4 := b3 (by omega)
    omega
  · rw [Int.toNat_natCast]
    have := hu k hk
    have h6 := hd.zero
    unfold farW at *
    omega
set_option maxRecDepth 20000 in
set_option maxHeartbeats 8000000 in
theorem lawDis (w : World) (N : Int) (a : Option Addr) (n c : Nat) (R : List Road) (hl : Roads w a R) (hn : R.length = n) (s0 : Int) :
    Calls Try.prog 11 #[.agg #[.int .i64 N, .slice a n c], .int .i64 s0] w fun e w' => e = .returned (.bool true) ∧ Ext w w' := by
  subst hn
  have hE0 := ext_alloc w (.cells #[.int .i64 N, .slice a R.length c] 24)
  have HB := Lib.hid (BlkC.new w #[.int .i64 N, .slice a R.length c] 24)
  have hz := HB.out.lt
  have g0 := HB.out.cellv 0 (v := .int .i64 N) rfl
  have g1 := HB.out.cellv 1 (v := .slice a R.length c) rfl
  go_enter Try.func11, Try.ntmps11
  go_wp2_with fail
  generalize (w.alloc (.cells #[.int .i64 N, .slice a R.length c] 24)) = w0 at *
  refine (f31_c N a R.length c _).mono ?_
  rintro e w1 ⟨rfl, hX1⟩
  have hE1 := hE0.trans' hX1
  clear g0 g1
  have g0 := (HB.out.ext hX1).cellv 0 (v := .int .i64 N) rfl
  have g1 := (HB.out.ext hX1).cellv 1 (v := .slice a R.length c) rfl
  have hz1 := (HB.out.ext hX1).lt
  by_cases h1 : 60 < R.length
  · rw [decide_eq_true (show (60 : Int) < (R.length : Int) by omega)]
    go_wp2_with fail
    refine (f19_c _).mono ?_
    rintro e w9 ⟨rfl, hX9⟩
    go_wp2_with fail
    go_ret
    exact ⟨rfl, hE1.trans' hX9⟩
  rw [decide_eq_false (show ¬ (60 : Int) < (R.length : Int) by omega)]
  go_wp2_with fail
  refine (f40_c N a R.length c R s0 _ (hl.ext hE1) rfl (by omega)).mono ?_
  rintro e w2 ⟨a3, c3, rfl, hI3, hX2⟩
  have hE2 := hE1.trans' hX2
  have hY2 := hX1.trans' hX2
  clear g0 g1 hz1
  have g0 := (HB.out.ext hY2).cellv 0 (v := .int .i64 N) rfl
  have g1 := (HB.out.ext hY2).cellv 1 (v := .slice a R.length c) rfl
  have hz1 := (HB.out.ext hY2).lt
  go_wp2_with fail
  refine (f49_c N a R.length c R s0 _ (hl.ext hE2) rfl (by omega)).mono ?_
  rintro e w3 ⟨a4, c4, rfl, hI4, hX3⟩
  have hE3 := hE2.trans' hX3
  have hY3 := hY2.trans' hX3
  have HI3 := Lib.hid (hI3.ext hX3)
  have HI4 := Lib.hid hI4
  have hLl := dist_len (N := N) (R := R) (s0 := s0)
  have HD := Lib.hid (dist_r (N := N) (R := R) (s0 := s0))
  clear g0 g1 hz1 hI3 hI4
  have hEE : (distErr N R s0 != distErr N R s0) = false := by simp
  generalize distV N R s0 = L at *
  go_wp2_with fail
  refine (f34_c a3 a4 L.length c3 L.length c4 L L _ HI3.out HI4.out rfl rfl (by omega) (by omega)).mono ?_
  rintro e w4 ⟨rfl, hX4⟩
  rw [show sameI L L = true by simp [sameI]]
  have hE4 := hE3.trans' hX4
  have hY4 := hY3.trans' hX4
  have HI5 := Lib.hid (HI3.out.ext hX4)
  have g0 := (HB.out.ext hY4).cellv 0 (v := .int .i64 N) rfl
  have g1 := (HB.out.ext hY4).cellv 1 (v := .slice a R.length c) rfl
  have hz1 := (HB.out.ext hY4).lt
  by_cases h0 : distErr N R s0 = 0
  case neg =>
    have hb : (distErr N R s0 != 0) = true := by simp [h0]
    clear h0 HD
    generalize distErr N R s0 = E at *
    go_wp2_with fail
    refine (f19_c _).mono ?_
    rintro e w9 ⟨rfl, hX9⟩
    go_wp2_with fail
    go_ret
    exact ⟨rfl, hE4.trans' hX9⟩
  have HD := Lib.hid (HD.out h0)
  rw [h0]
  clear h0 hEE
  go_wp2_with fail
  go_loopw [9] (fun i wr => ∃ k : Nat, k ≤ R.length ∧ i = .int .i64 k ∧ Ext w4 wr) (fun i _ => R.length - (intOf i).toNat)
  case atStart => exact ⟨0, Nat.zero_le _, rfl, Below.refl _ _⟩
  case round =>
    obtain ⟨k, hk, rfl, hX5⟩ := hrel
    have hE5 := hE4.trans' hX5
    have hY5 := hY4.trans' hX5
    have HI6 := Lib.hid (HI5.out.ext hX5)
    clear g0 g1 hz1
    have g0 := (HB.out.ext hY5).cellv 0 (v := .int .i64 N) rfl
    have g1 := (HB.out.ext hY5).cellv 1 (v := .slice a R.length c) rfl
    have hz1 := (HB.out.ext hY5).lt
    by_cases hlt : k < R.length
    case neg =>
      obtain rfl : k = R.length := by omega
      obtain ⟨z1, z2⟩ := HD.out.at_
      obtain ⟨s, rfl⟩ := Int.eq_ofNat_of_zero_le z1
      have z3 := HD.out.zero
      rw [Int.toNat_natCast] at z3
      obtain ⟨b1, o1, rfl, hb1, hc1⟩ := HI6.out s (by omega)
      rw [gi_def, z3] at hc1
      clear z3 z1
      go_wp2_with fail
      refine (f19_c _).mono ?_
      rintro e w9 ⟨rfl, hX9⟩
      go_wp2_with fail
      go_ret
      exact ⟨rfl, hE5.trans' hX9⟩
    obtain ⟨b, off, rfl, hb, c1, c2', c3', c4'⟩ := hl.ext hE5 k hlt
    have hin := HD.out.in_ k hlt
    have hr := HD.out.road k hlt
    have hbd1 := HD.out.bd R[k].fr.toNat (by omega)
    have hbd2 := HD.out.bd R[k].to.toNat (by omega)
    generalize R[k].wd = wd at *
    generalize R[k].fr = fr at *
    generalize R[k].to = tt at *
    generalize R[k].ln = ln at *
    obtain ⟨u, rfl⟩ := Int.eq_ofNat_of_zero_le hin.1
    obtain ⟨t, rfl⟩ := Int.eq_ofNat_of_zero_le hin.2.2.1
    rw [Int.toNat_natCast] at hr hbd1 hbd2
    rw [Int.toNat_natCast] at hr
    have hul : u < L.length := by omega
    have htl : t < L.length := by omega
    have hXA := ext_alloc wr (.cells #[.int .i64 (u : Int), .int .i64 (t : Int), .int .i64 ln, .int .i64 wd] 55)
    have HT := Lib.hid (BlkC.new wr #[.int .i64 (u : Int), .int .i64 (t : Int), .int .i64 ln, .int .i64 wd] 55)
    have t0 := HT.out.cellv 0 (v := .int .i64 (u : Int)) rfl
    have t1 := HT.out.cellv 1 (v := .int .i64 (t : Int)) rfl
    have t2 := HT.out.cellv 2 (v := .int .i64 ln) rfl
    have ht9 := HT.out.lt
    obtain ⟨b1, o1, rfl, hb1, hc1⟩ := (HI6.out.ext hXA) u hul
    obtain ⟨b2, o2, e2, hb2, hc2⟩ := (HI6.out.ext hXA) t htl
    simp only [Option.some.injEq, Addr.mk.injEq, and_true] at e2
    obtain ⟨rfl, rfl⟩ := e2
    rw [gi_def] at hc1 hc2
    have hX6 := hX5.trans' hXA
    generalize gi L u = x1 at *
    generalize gi L t = x2 at *
    by_cases q1 : 0 ≤ x1
    · obtain ⟨r1, r2⟩ := hr q1
      have hd1 : decide (0 ≤ x1) = true := decide_eq_true q1
      have hd2 : decide (x2 < 0) = false := decide_eq_false (by omega)
      have hd3 : decide (x1 + ln < x2) = false := decide_eq_false (by omega)
      clear hr
      go_upto_region 13 with fail
      generalize wr.alloc (.cells #[.int .i64 (u : Int), .int .i64 (t : Int), .int .i64 ln, .int .i64 wd] 55) = wA at *
      generalize hxb : wr.heap.size = xb at *
      clear hxb
      refine wp_region_ext (by kernel_rfl) (by kernel_rfl) ?_
      repeat (go_big_quiet_step (fail))
      refine wpQuiet_nil ?_
      intro w7 hX7
      go_wp2_with fail
      go_roundw
      case rel => exact ⟨k + 1, by omega, by go_num, hX6.trans' hX7⟩
      case measure => simp [intOf]; omega
    · have hd1 : decide (0 ≤ x1) = false := decide_eq_false q1
      clear hr
      go_upto_region 13 with fail
      generalize wr.alloc (.cells #[.int .i64 (u : Int), .int .i64 (t : Int), .int .i64 ln, .int .i64 wd] 55) = wA at *
      generalize hxb : wr.heap.size = xb at *
      clear hxb
      refine wp_region_ext (by kernel_rfl) (by kernel_rfl) ?_
      repeat (go_big_quiet_step (fail))
      refine wpQuiet_nil ?_
      intro w7 hX7
      go_wp2_with fail
      go_roundw
      case rel => exact ⟨k + 1, by omega, by go_num, hX6.trans' hX7⟩
      case measure => simp [intOf]; omega
end Go.Proofs.Ytbejgbflipoboaa
