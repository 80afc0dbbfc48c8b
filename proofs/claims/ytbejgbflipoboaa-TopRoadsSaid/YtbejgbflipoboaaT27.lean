/- Contracts of roads: the program's prices. -/
import Derived.Deep.Cut
import Derived.Deep.CutRange
import Derived.Deep.DeepCutAuto
import Derived.Deep.RegionWith
import Derived.Deep.RegionHeld3
import Derived.RegionTactic
import Derived.BigRegion
import Derived.Test.YtbejgbflipoboaaT14
import Derived.Test.YtbejgbflipoboaaP3
namespace Go.Proofs.Ytbejgbflipoboaa
open Go.RowKit
attribute [local go_sem] GW.cell
def prcV (N : Int) (R : List Road) (x : List Int) : List Int := if okF N R x then prcL N.toNat R (cheapF N R x) else []
theorem prcV_len {N : Int} {R : List Road} {x : List Int} : (prcV N R x).length ≤ 6 := by
  unfold prcV
  by_cases h : okF N R x = true
  · rw [if_pos h]
    obtain ⟨M, rfl, h2, h3, _⟩ := okF_flow h
    have := (reachR_view h3 (cheapF (M : Int) R x) (first := List.replicate M 0) (by simp)).2.1
    have hM := h3.n1
    unfold prcL
    rw [Int.toNat_natCast, this]; omega
  · rw [if_neg h]; simp
set_option maxRecDepth 20000 in
set_option maxHeartbeats 8000000 in
theorem f42_c (N : Int) (a : Option Addr) (n c : Nat) (R : List Road) (a2 : Option Addr) (n2 c2 : Nat) (x : List Int) (w : World) (hl : Roads w a R) (hn : R.length = n) (hlen : n ≤ 140737488355328) (hx : Ints w a2 x) (hxl : x.length = n2) (hlen2 : n2 ≤ 1000000) :
    Calls Try.prog 42 #[.agg #[.int .i64 N, .slice a n c], .slice a2 n2 c2] w (RetCheap (prcV N R x) (okF N R x) (excErr N R x) w) := by
  subst hn hxl
  obtain ⟨i0, hi0⟩ := info_parts info3
  have Hi := Lib.hid hi0
  clear hi0
  have C28 := Lib.hid (fun W (hW : Ext w W) => f28_c N a R.length c R a2 x.length c2 x W (hl.ext hW) rfl hlen (hx.ext hW) rfl hlen2)
  have hE0 := ext_alloc w (.cells #[.int .i64 N, .slice a R.length c] 24)
  have HB := Lib.hid (BlkC.new w #[.int .i64 N, .slice a R.length c] 24)
  have hz := HB.out.lt
  have g0 := HB.out.cellv 0 (v := .int .i64 N) rfl
  have g1 := HB.out.cellv 1 (v := .slice a R.length c) rfl
  go_enter Try.func42, Try.ntmps42
  go_wp2_with fail
  generalize (w.alloc (.cells #[.int .i64 N, .slice a R.length c] 24)) = w0 at *
  refine (C28.out _ hE0).mono ?_
  rintro e w1 ⟨a3, c3, rfl, hI, hX1⟩
  have HI := Lib.hid hI
  have hE1 := hE0.trans' hX1
  clear hI C28 g0 g1 hz
  rcases Bool.eq_false_or_eq_true (okF N R x) with hb | hb
  case inr =>
    have HV : Hid (prcV N R x = []) := Lib.hid (by unfold prcV; rw [hb]; rfl)
    have HOB := Lib.hid hb
    rw [hb]
    clear hb
    generalize excErr N R x = E at *
    generalize (cheapF N R x) = L at *
    go_wp2_with fail
    go_ret3
    rw [HV.out, HOB.out]
    exact ⟨none, 0, rfl, ints_nil _ _, hE1⟩
  have HOB := Lib.hid hb
  have HV : Hid (prcV N R x = prcL N.toNat R (cheapF N R x)) := Lib.hid (by unfold prcV; rw [hb]; rfl)
  obtain ⟨M, rfl, h2, h3, h4, h5, h6, h7, h8, h9⟩ := okF_flow hb
  have Hok := Lib.hid h3
  have h0 : excErr (M : Int) R x = 0 := h4
  have HEE := Lib.hid h0
  have hM := h3.n1
  have HLl := Lib.hid h7.1
  rw [hb, h0]
  rw [Int.toNat_natCast] at HV
  clear hb h0 h2 h3 h4 h5 h6 h7 h8 h9
  generalize cheapF (M : Int) R x = L at *
  have g0 := (HB.out.ext hX1).cellv 0 (v := .int .i64 (M : Int)) rfl
  have g1 := (HB.out.ext hX1).cellv 1 (v := .slice a R.length c) rfl
  have hzr := (HB.out.ext hX1).lt
  go_upto_region 4 with fail
  go_region_held3 (fun w' => w'.cell? ⟨w.heap.size, 0, none⟩ = some (.int .i64 (M : Int)) ∧ w'.cell? ⟨w.heap.size, 1, none⟩ = some (.slice a R.length c)) (first | assumption | exact ⟨by assumption, by assumption⟩ | go_keep)
    (first
      | (refine upon_make w1.heap.size 3 i0 (.int .i64 0) 1 Try.underlying25 Hi.out.1 Hi.out.2.1 Hi.out.2.2.1 (by rw [Hi.out.2.2.2]; omega) (by unfold maxLen; omega) (ext_drew _).size ?_
         intro wm hom hgrow
         have hXm : Ext w1 wm := (ext_drew _).trans' ((Below.refl _ _).grown hgrow (Nat.le_refl _) (by simp))
         have gm0 := (HB.out.ext (hX1.trans' hXm)).cellv 0 (v := .int .i64 (M : Int)) rfl
         have gm1 := (HB.out.ext (hX1.trans' hXm)).cellv 1 (v := .slice a R.length c) rfl)
      | (go_at_call 76
         refine (f76_c M a R.length c R a3 L.length c3 L w1.heap.size 0 M (List.replicate M 0) _ (hl.ext (hE1.trans' hXm)) rfl Hok.out (HI.out.ext hXm) rfl HLl.out (made_own hom).ints (by simp) (fun i _ => by rw [gi_rep]; omega)).mono ?_
         rintro e w4 ⟨gA, cA, gB, rfl, hA, _, _, hX4⟩
         have gq0 := (HB.out.ext ((hX1.trans' hXm).trans' hX4)).cellv 0 (v := .int .i64 (M : Int)) rfl
         have gq1 := (HB.out.ext ((hX1.trans' hXm).trans' hX4)).cellv 1 (v := .slice a R.length c) rfl))
  have hAl := hA.len
  have hAi := Lib.hid hA.ints
  have hE4 := (hE1.trans' hXm).trans' hX4
  have HV2 : Hid (prcV (M : Int) R x = (reachR M R L (List.replicate M 0)).at_) := Lib.hid HV.out
  have HAl := Lib.hid hAl
  clear hA hAl HV hom
  generalize (reachR M R L (List.replicate M 0)) = X at *
  generalize X.last = la at *
  go_wp2_with fail
  go_ret3
  rw [HV2.out, HOB.out, HEE.out]
  refine ⟨some ⟨gA, 0, none⟩, cA, ?_, hAi.out, hE4⟩
  rw [HAl.out]
  rfl
end Go.Proofs.Ytbejgbflipoboaa
