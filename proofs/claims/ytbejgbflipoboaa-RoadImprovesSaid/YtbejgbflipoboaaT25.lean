/- Contracts of roads: the reference's Cheapest and Least. -/
import Derived.Test.YtbejgbflipoboaaT14
import Derived.Test.YtbejgbflipoboaaT24
import Derived.Test.YtbejgbflipoboaaP3
namespace Go.Proofs.Ytbejgbflipoboaa
open Go.RowKit
attribute [local go_sem] GW.cell
def chpL (N : Int) (R : List Road) (x : List Int) : List Int := if okF N R x then (chpV N.toNat R x).getD [] else []
theorem chpL_ok {N : Int} {R : List Road} {x : List Int} (h : okF N R x = true) : ∃ M : Nat, N = M ∧ x.length = M ∧ NetOk (M : Int) R ∧ excErr (M : Int) R x = 0 ∧ FlowR M R x (chpL N R x) ∧ costTo R (chpL N R x) R.length = lstF N R x := by
  obtain ⟨M, rfl, h2, h3, h4, h5, h6, h7, h8, h9⟩ := okF_flow h
  refine ⟨M, rfl, h2, h3, h4, ?_⟩
  unfold chpL
  rw [if_pos h, Int.toNat_natCast]
  rcases (chp_ok h4).2 with ⟨_, f, e, hf, hc, _⟩ | ⟨hno, _⟩
  · rw [e]; exact ⟨hf, hc⟩
  · rw [hno] at h; contradiction
theorem chpL_flow {N : Int} {R : List Road} {x : List Int} (h : okF N R x = true) : flowErr N R x (chpL N R x) = 0 ∧ flowB R (chpL N R x) = true ∧ (chpL N R x).length = R.length := by
  obtain ⟨M, rfl, h2, h3, h4, h5, h6⟩ := chpL_ok h
  have := (flowErr_iff h4).2 h5
  exact ⟨this, (flowErr_ok this).2.1, h5.1⟩
theorem chp_c (N : Int) (a : Option Addr) (n c : Nat) (R : List Road) (a2 : Option Addr) (n2 c2 : Nat) (x : List Int) (w : World) (hl : Roads w a R) (hn : R.length = n) (hx : Ints w a2 x) (hxl : x.length = n2) (h0 : excErr N R x = 0) :
    Calls Try.prog 67 #[.agg #[.int .i64 N, .slice a n c], .slice a2 n2 c2] w fun e w' => ∃ a3 c3, e = .returned (.tuple #[.slice a3 (chpL N R x).length c3, .bool (okF N R x)]) ∧ Ints w' a3 (chpL N R x) ∧ Ext w w' := by
  subst hn hxl
  obtain ⟨M, rfl, h2, h3, h4, h5⟩ := exc_nat h0
  obtain ⟨b, o, rfl⟩ := ints_some hx (by omega)
  obtain ⟨k1, k2⟩ := chp_ok h0
  rw [h2]
  refine (f67_c M 1000 a R.length c R b o c2 x (chpV M R x) w hl rfl h3 hx h2 k1 (Nat.le_refl _) (exc_bd h0)).mono ?_
  rintro e w1 h
  rcases h with ⟨g, fl, e1, rfl, hO, hE⟩ | ⟨e1, rfl, hE⟩
  · rcases k2 with ⟨hb, f, e2, hf, _⟩ | ⟨_, e2⟩
    · have e3 : chpL (M : Int) R x = fl := by unfold chpL; rw [if_pos hb, Int.toNat_natCast, e1]; rfl
      rw [e3, hb, hO.len]
      exact ⟨_, _, rfl, hO.ints, hE⟩
    · rw [e1] at e2; simp at e2
  · rcases k2 with ⟨_, f, e2, _⟩ | ⟨hb, _⟩
    · rw [e1] at e2; simp at e2
    · have e3 : chpL (M : Int) R x = [] := by unfold chpL; rw [hb]; rfl
      rw [e3, hb]
      exact ⟨_, _, rfl, ints_nil _ _, hE⟩
set_option maxHeartbeats 4000000 in
theorem f48_c (N : Int) (a : Option Addr) (n c : Nat) (R : List Road) (a2 : Option Addr) (n2 c2 : Nat) (x : List Int) (w : World) (hl : Roads w a R) (hn : R.length = n) (hlen : n ≤ 140737488355328) (hx : Ints w a2 x) (hxl : x.length = n2) (hlen2 : n2 ≤ 1000000) :
    Calls Try.prog 48 #[.agg #[.int .i64 N, .slice a n c], .slice a2 n2 c2] w (RetCheap (chpL N R x) (okF N R x) (excErr N R x) w) := by
  subst hn hxl
  have C24 := Lib.hid (fun W (hW : Ext w W) => f25_c N a R.length c R a2 x.length c2 x W (hl.ext hW) rfl hlen (hx.ext hW) rfl hlen2)
  have C68 := Lib.hid (fun W (hW : Ext w W) (h0 : excErr N R x = 0) => chp_c N a R.length c R a2 x.length c2 x W (hl.ext hW) rfl (hx.ext hW) rfl h0)
  have hE0 := ext_alloc w (.cells #[.int .i64 N, .slice a R.length c] 24)
  have HB := Lib.hid (BlkC.new w #[.int .i64 N, .slice a R.length c] 24)
  have hz := HB.out.lt
  have g0 := HB.out.cellv 0 (v := .int .i64 N) rfl
  have g1 := HB.out.cellv 1 (v := .slice a R.length c) rfl
  go_enter Try.func48, Try.ntmps48
  go_wp2_with fail
  generalize (w.alloc (.cells #[.int .i64 N, .slice a R.length c] 24)) = w0 at *
  refine (C24.out _ hE0).mono ?_
  rintro e w1 ⟨rfl, hX1⟩
  have hE1 := hE0.trans' hX1
  by_cases h0 : excErr N R x = 0
  case neg =>
    have hb : (excErr N R x != 0) = true := by simp [h0]
    have HC : Hid (chpL N R x = [] ∧ okF N R x = false) := Lib.hid (by unfold chpL okF; simp [h0])
    clear h0 C24 C68
    generalize hEE : excErr N R x = E at *
    have HEE := Lib.hid hEE
    clear hEE
    go_wp2_with fail
    go_ret3
    rw [HC.out.1, HC.out.2]
    exact ⟨none, 0, rfl, ints_nil _ _, hE1⟩
  have C68 := Lib.hid (C68.out _ hE1 h0)
  clear g0 g1
  have g0 := (HB.out.ext hX1).cellv 0 (v := .int .i64 N) rfl
  have g1 := (HB.out.ext hX1).cellv 1 (v := .slice a R.length c) rfl
  have hzr := (HB.out.ext hX1).lt
  rw [h0]
  go_wp2_with fail
  refine C68.out.mono ?_
  rintro e w2 ⟨a3, c3, rfl, hI, hX2⟩
  have HI := Lib.hid hI
  have hE2 := hE1.trans' hX2
  have HEE := Lib.hid h0
  clear hI C24 C68 h0
  generalize okF N R x = b at *
  generalize chpL N R x = L at *
  go_wp2_with fail
  go_ret3
  rw [HEE.out]
  exact ⟨_, _, rfl, HI.out, hE2⟩
set_option maxHeartbeats 4000000 in
theorem f27_c (N : Int) (a : Option Addr) (n c : Nat) (R : List Road) (a2 : Option Addr) (n2 c2 : Nat) (x : List Int) (w : World) (hl : Roads w a R) (hn : R.length = n) (hlen : n ≤ 140737488355328) (hx : Ints w a2 x) (hxl : x.length = n2) (hlen2 : n2 ≤ 1000000) :
    Calls Try.prog 27 #[.agg #[.int .i64 N, .slice a n c], .slice a2 n2 c2] w fun e w' => e = .returned (.tuple #[.int .i64 (lstF N R x), .bool (okF N R x), .int .i64 (excErr N R x)]) ∧ Ext w w' := by
  subst hn hxl
  have C24 := Lib.hid (fun W (hW : Ext w W) => f25_c N a R.length c R a2 x.length c2 x W (hl.ext hW) rfl hlen (hx.ext hW) rfl hlen2)
  have C68 := Lib.hid (fun W (hW : Ext w W) (h0 : excErr N R x = 0) => chp_c N a R.length c R a2 x.length c2 x W (hl.ext hW) rfl (hx.ext hW) rfl h0)
  have hE0 := ext_alloc w (.cells #[.int .i64 N, .slice a R.length c] 24)
  have HB := Lib.hid (BlkC.new w #[.int .i64 N, .slice a R.length c] 24)
  have hz := HB.out.lt
  have g0 := HB.out.cellv 0 (v := .int .i64 N) rfl
  have g1 := HB.out.cellv 1 (v := .slice a R.length c) rfl
  go_enter Try.func27, Try.ntmps27
  go_wp2_with fail
  generalize (w.alloc (.cells #[.int .i64 N, .slice a R.length c] 24)) = w0 at *
  refine (C24.out _ hE0).mono ?_
  rintro e w1 ⟨rfl, hX1⟩
  have hE1 := hE0.trans' hX1
  by_cases h0 : excErr N R x = 0
  case neg =>
    have hb : (excErr N R x != 0) = true := by simp [h0]
    have HC : Hid (lstF N R x = 0 ∧ okF N R x = false) := Lib.hid (by unfold lstF okF; simp [h0])
    clear h0 C24 C68
    generalize hEE : excErr N R x = E at *
    have HEE := Lib.hid hEE
    clear hEE
    go_wp2_with fail
    go_ret3
    rw [HC.out.1, HC.out.2, HEE.out]
    exact ⟨rfl, hE1⟩
  have C68 := Lib.hid (C68.out _ hE1 h0)
  clear g0 g1
  have g0 := (HB.out.ext hX1).cellv 0 (v := .int .i64 N) rfl
  have g1 := (HB.out.ext hX1).cellv 1 (v := .slice a R.length c) rfl
  have hzr := (HB.out.ext hX1).lt
  rw [h0]
  go_wp2_with fail
  refine C68.out.mono ?_
  rintro e w2 ⟨a3, c3, rfl, hI, hX2⟩
  have HI := Lib.hid hI
  have hE2 := hE1.trans' hX2
  have hY2 := hX1.trans' hX2
  have HEE := Lib.hid h0
  clear hI C24 C68 h0 g0 g1 hzr
  rcases Bool.eq_false_or_eq_true (okF N R x) with hb | hb
  · obtain ⟨k1, k2, k3⟩ := chpL_flow hb
    obtain ⟨k5, h12⟩ : costTo R (chpL N R x) R.length = lstF N R x ∧ R.length ≤ 12 := by
      obtain ⟨M, rfl, _, k4, _, _, k5⟩ := chpL_ok hb
      exact ⟨k5, k4.r12⟩
    have Hok : Hid (NetOk N R) := Lib.hid (netErr_ok (excErr_ok HEE.out).1)
    have Hfb := Lib.hid k2
    have HK := Lib.hid k5
    have HOB := Lib.hid hb
    clear k1 k2 k5
    rw [hb]
    clear hb
    have g0 := (HB.out.ext hY2).cellv 0 (v := .int .i64 N) rfl
    have g1 := (HB.out.ext hY2).cellv 1 (v := .slice a R.length c) rfl
    have hzr := (HB.out.ext hY2).lt
    have hle : (chpL N R x).length ≤ 1000000 := by omega
    go_wp2_with fail
    refine (f63_c N a R.length c R a3 _ c3 (chpL N R x) w2 (hl.ext hE2) rfl hlen HI.out (by first | rfl | omega) (by omega) Hok.out Hfb.out).mono ?_
    rintro e w3 ⟨rfl, hX3⟩
    go_wp2_with fail
    go_ret3
    rw [HEE.out, HK.out, HOB.out]
    exact ⟨rfl, hE2.trans' hX3⟩
  · have HC : Hid (lstF N R x = 0) := Lib.hid (by unfold lstF; rw [hb]; rfl)
    have HOB := Lib.hid hb
    rw [hb]
    clear hb
    generalize chpL N R x = L at *
    go_wp2_with fail
    go_ret3
    rw [HC.out, HEE.out, HOB.out]
    exact ⟨rfl, hE2⟩
end Go.Proofs.Ytbejgbflipoboaa
