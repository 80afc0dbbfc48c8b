/- Contracts of roads: ways of the reference. -/
import Derived.Deep.Cut
import Derived.Deep.CutRange
import Derived.Deep.DeepCutAuto
import Derived.Deep.RegionWith
import Derived.Deep.RegionHeld3
import Derived.RegionTactic
import Derived.BigRegion
import Derived.Test.YtbejgbflipoboaaT20
namespace Go.Proofs.Ytbejgbflipoboaa
open Go.RowKit
attribute [local go_sem] GW.cell
def fillW (M : Nat) (v : Int) (q : Nat) : List Int := (List.range M).map fun i => if i < q then v else 0
theorem fillW_zero (M : Nat) (v : Int) : fillW M v 0 = List.replicate M 0 := by unfold fillW; rw [List.eq_replicate_iff]; simp
theorem fillW_all (M : Nat) (v : Int) : fillW M v M = List.replicate M v := by
  unfold fillW; rw [List.eq_replicate_iff]
  refine ⟨by simp, fun b hb => ?_⟩
  obtain ⟨i, hi, rfl⟩ := List.mem_map.1 hb
  rw [if_pos (List.mem_range.1 hi)]
theorem fillW_length (M : Nat) (v : Int) (q : Nat) : (fillW M v q).length = M := by simp [fillW]
theorem fillW_set {M : Nat} {v : Int} {q : Nat} : (fillW M v q).set q v = fillW M v (q + 1) := List.ext_getElem (by simp [fillW]) fun j h1 h2 => by
  rw [List.getElem_set]
  simp only [fillW, List.getElem_map, List.getElem_range]
  by_cases e : q = j
  · subst e; simp
  · rw [if_neg e]
    by_cases h : j < q
    · rw [if_pos h, if_pos (by omega)]
    · rw [if_neg h, if_neg (by omega)]
theorem relaxW_no1 {R : List Road} {L : List Int} {st : WS} {i : Nat} (h : ¬ gi st.at_ (stFr R (gi L i)).toNat < 1000000) : relaxW R L st i = st := by
  unfold relaxW; rw [if_neg (fun h2 => h h2.1)]
theorem relaxW_no2 {R : List Road} {L : List Int} {st : WS} {i : Nat} (h : ¬ gi st.at_ (stFr R (gi L i)).toNat + stLn R (gi L i) < gi st.at_ (stTo R (gi L i)).toNat) : relaxW R L st i = st := by
  unfold relaxW; rw [if_neg (fun h2 => h h2.2)]
theorem relaxW_yes {R : List Road} {L : List Int} {st : WS} {i : Nat} (h1 : gi st.at_ (stFr R (gi L i)).toNat < 1000000) (h2 : gi st.at_ (stFr R (gi L i)).toNat + stLn R (gi L i) < gi st.at_ (stTo R (gi L i)).toNat) :
    relaxW R L st i = ⟨st.at_.set (stTo R (gi L i)).toNat (gi st.at_ (stFr R (gi L i)).toNat + stLn R (gi L i)), st.by_.set (stTo R (gi L i)).toNat i⟩ := by
  unfold relaxW; rw [if_pos ⟨h1, h2⟩]
/-- what ways hands back -/
def RetWays (M : Nat) (X : WS) (w : World) (e : Ending) (w' : World) : Prop :=
  ∃ gA gB, e = .returned (.tuple #[.slice (some ⟨gA, 0, none⟩) M M, .slice (some ⟨gB, 0, none⟩) M M]) ∧ OwnG w' 3 w.heap.size gA M M X.at_ ∧ OwnG w' 3 w.heap.size gB M M X.by_ ∧ gA ≠ gB ∧ Ext w w'
set_option maxRecDepth 20000 in
set_option maxHeartbeats 16000000 in
theorem f83_c (M : Nat) (a : Option Addr) (n c : Nat) (R : List Road) (a2 : Option Addr) (n2 c2 : Nat) (L : List Int) (s0 : Nat) (w : World) (hok : NetOk (M : Int) R) (hx : Rarcs w a2 (arcsOf R L)) (hn2 : L.length = n2) (hL : ∀ s ∈ L, StepIn R.length s) (hl24 : L.length ≤ 24) (hs0 : s0 < M) :
    Calls Try.prog 83 #[.agg #[.int .i64 (M : Int), .slice a n c], .slice a2 n2 c2, .int .i64 (s0 : Int)] w (RetWays M (waysR M R L s0) w) := by
  subst hn2
  obtain ⟨i0, hi0⟩ := info_parts info3
  have Hi := Lib.hid hi0
  clear hi0
  have hM := hok.n1
  have hE0 := ext_alloc w (.cells #[.int .i64 (M : Int), .slice a n c] 24)
  have HB := Lib.hid (BlkC.new w #[.int .i64 (M : Int), .slice a n c] 24)
  have hz := HB.out.lt
  have g0 := HB.out.cellv 0 (v := .int .i64 (M : Int)) rfl
  go_enter Try.func83, Try.ntmps83
  go_upto_region 1 with fail
  generalize (w.alloc (.cells #[.int .i64 (M : Int), .slice a n c] 24)) = w0 at *
  go_cut [8, 9] from 13 to 18 (fun v8 v9 wx => ∃ gA gB, v8 = .slice (some ⟨gA, 0, none⟩) M M ∧ v9 = .slice (some ⟨gB, 0, none⟩) M M ∧ Hid (OwnG wx 3 w0.heap.size gA M M (List.replicate M 0)) ∧ Hid (OwnG wx 3 w0.heap.size gB M M (List.replicate M 0)) ∧ gA ≠ gB ∧ Ext w0 wx)
  case first =>
    go_region_held3 (fun w' => w'.cell? ⟨w.heap.size, 0, none⟩ = some (.int .i64 (M : Int))) (first | assumption | go_keep)
      (first
        | (refine upon_make w0.heap.size 3 i0 (.int .i64 0) 1 Try.underlying25 Hi.out.1 Hi.out.2.1 Hi.out.2.2.1 (by rw [Hi.out.2.2.2]; omega) (by unfold maxLen; omega) (by first | exact hXm.size | exact (ext_drew _).size) ?_
           intro wm hom hgrow
           first
             | (have hXn : Ext wo1 wm := (Below.refl _ _).grown hgrow (Nat.le_refl _) (by simp)
                have hXk := hXm.trans' hXn
                have gm2 := (HB.out.ext hXk).cellv 0 (v := .int .i64 (M : Int)) rfl)
             | (have hXm : Ext w0 wm := (ext_drew _).trans' ((Below.refl _ _).grown hgrow (Nat.le_refl _) (by simp))
                obtain ⟨wo1, hwo1⟩ : ∃ wo1 : World, wo1 = wm := ⟨_, rfl⟩
                subst hwo1
                have hom1 := hom
                clear hom
                have gm1 := (HB.out.ext hXm).cellv 0 (v := .int .i64 (M : Int)) rfl)))
    · have hF := (made_own hom1).ext hXn
      have hF2 := made_own hom
      have hF3 := (made_own hom1).slot
      go_wp2_with fail
      go_meet
      case rel => exact ⟨_, _, rfl, rfl, Lib.hid hF, Lib.hid hF2, by simp at hF3 ⊢; omega, hXk⟩
    · have hF := (made_own hom1).ext hXn
      have hF2 := made_own hom
      have hF3 := (made_own hom1).slot
      go_wp2_with fail
      go_meet
      case rel => exact ⟨_, _, rfl, rfl, Lib.hid hF2, Lib.hid hF, by simp at hF3 ⊢; omega, hXk⟩
  case rest =>
    obtain ⟨gA, gB, rfl, rfl, HA, HB', hne, hX⟩ := hcut
    have HA0 : Hid (OwnG wc 3 w0.heap.size gA M M (fillW M 1000000 0)) := Lib.hid (by rw [fillW_zero]; exact HA.out)
    have HB0 : Hid (OwnG wc 3 w0.heap.size gB M M (fillW M (-1) 0)) := Lib.hid (by rw [fillW_zero]; exact HB'.out)
    have HL := Lib.hid hL
    have Hok := Lib.hid hok
    have HSt := Lib.hid (fun j => waysTo_ok hok hL hl24 (startW_ok L.length hs0) j)
    clear HA HB' g0 hL
    go_wp2_with fail
    go_loopw [10] (fun i wr => ∃ q : Nat, q ≤ M ∧ i = .int .i64 q ∧ Ext w0 wr ∧ Hid (OwnG wr 3 w0.heap.size gA M M (fillW M 1000000 q)) ∧ Hid (OwnG wr 3 w0.heap.size gB M M (fillW M (-1) q))) (fun i _ => M - (intOf i).toNat)
    case atStart => exact ⟨0, Nat.zero_le _, rfl, hX, HA0, HB0⟩
    case round =>
      obtain ⟨q, hq, rfl, hX, HA, HB'⟩ := hrel
      have hE := hE0.trans' hX
      have g0 := (HB.out.ext hX).cellv 0 (v := .int .i64 (M : Int)) rfl
      have hzr := (HB.out.ext hX).lt
      have sA := HA.out.slot
      have sB := HB'.out.slot
      by_cases hlt : q < M
      case pos =>
        have lA := HA.out.cell (i := q) (by rw [fillW_length]; exact hlt)
        have lB := HB'.out.cell (i := q) (by rw [fillW_length]; exact hlt)
        have fA := HA.out.froz q
        have fB := HB'.out.froz q
        have HA1 := Lib.hid ((HA.out.store q 1000000).other (g' := gB) (fun e => hne e.symm) q (.int .i64 (-1)))
        have HB1 := Lib.hid ((HB'.out.other (g' := gA) hne q (.int .i64 1000000)).store q (-1))
        rw [fillW_set] at HA1 HB1
        have hXf := (hX.setCell (p := ⟨gA, q, none⟩) sA.2.2 (.int .i64 1000000)).setCell (p := ⟨gB, q, none⟩) sB.2.2 (.int .i64 (-1))
        go_wp2_with fail
        go_roundw
        case rel => exact ⟨q + 1, by omega, by go_num, hXf, HA1, HB1⟩
        case measure => simp [intOf]; omega
      obtain rfl : q = M := by omega
      rw [fillW_all] at HA HB'
      have HA2 := Lib.hid (HA.out.store s0 0)
      have HB2 := Lib.hid (HB'.out.other (g' := gA) hne s0 (.int .i64 0))
      have lA := HA.out.cell (i := s0) (by simp; omega)
      have fA := HA.out.froz s0
      have hX2 := hX.setCell (p := ⟨gA, s0, none⟩) sA.2.2 (.int .i64 0)
      have HA3 : Hid (OwnG (wr.setCell ⟨gA, s0, none⟩ (.int .i64 0)) 3 w0.heap.size gA q q (waysTo R L (startW q s0) 0).at_) := HA2
      have HB3 : Hid (OwnG (wr.setCell ⟨gA, s0, none⟩ (.int .i64 0)) 3 w0.heap.size gB q q (waysTo R L (startW q s0) 0).by_) := HB2
      clear HA2 HB2 HA HB'
      go_wp2_with fail
      go_loopw [11] (fun i wr => ∃ j : Nat, j ≤ q ∧ i = .int .i64 j ∧ Ext w0 wr ∧ Hid (OwnG wr 3 w0.heap.size gA q q (waysTo R L (startW q s0) j).at_) ∧ Hid (OwnG wr 3 w0.heap.size gB q q (waysTo R L (startW q s0) j).by_)) (fun i _ => q - (intOf i).toNat)
      case atStart => exact ⟨0, Nat.zero_le _, rfl, hX2, HA3, HB3⟩
      case round =>
        obtain ⟨j, hj, rfl, hX, HA, HB'⟩ := hrel
        have hE := hE0.trans' hX
        clear g0 hzr sA sB
        have g0 := (HB.out.ext hX).cellv 0 (v := .int .i64 (q : Int)) rfl
        have hzr := (HB.out.ext hX).lt
        have sA := HA.out.slot
        have sB := HB'.out.slot
        by_cases hlt : j < q
        case neg =>
          obtain rfl : j = q := by omega
          have HR : Hid (RetWays j (waysR j R L s0) w (.returned (.tuple #[.slice (some ⟨gA, 0, none⟩) j j, .slice (some ⟨gB, 0, none⟩) j j])) wr) := Lib.hid ⟨gA, gB, rfl, HA.out.base hE0.size, HB'.out.base hE0.size, hne, hE⟩
          go_wp2_with fail
          go_ret2
          exact HR.out
        have HSj := Lib.hid (HSt.out j)
        have Hnext : Hid (waysTo R L (startW q s0) (j + 1) = inW R L (waysTo R L (startW q s0) j) L.length) := Lib.hid rfl
        generalize waysTo R L (startW q s0) j = X at *
        have H0 : Hid (inW R L X 0 = X) := Lib.hid rfl
        go_wp2_with fail
        go_loopw [12] (fun i wr => ∃ p : Nat, p ≤ L.length ∧ i = .int .i64 p ∧ Ext w0 wr ∧ Hid (OwnG wr 3 w0.heap.size gA q q (inW R L X p).at_) ∧ Hid (OwnG wr 3 w0.heap.size gB q q (inW R L X p).by_)) (fun i _ => L.length - (intOf i).toNat)
        case atStart => exact ⟨0, Nat.zero_le _, rfl, hX, HA, HB'⟩
        case round =>
          obtain ⟨p, hp, rfl, hX, HA, HB'⟩ := hrel
          have hE := hE0.trans' hX
          clear g0 hzr sA sB
          have g0 := (HB.out.ext hX).cellv 0 (v := .int .i64 (q : Int)) rfl
          have hzr := (HB.out.ext hX).lt
          have sA := HA.out.slot
          have sB := HB'.out.slot
          by_cases hlp : p < L.length
          case neg =>
            obtain rfl : p = L.length := by omega
            go_wp2_with fail
            go_roundw
            case rel => exact ⟨j + 1, by omega, by go_num, hX, by rw [Hnext.out]; exact HA, by rw [Hnext.out]; exact HB'⟩
            case measure => simp [intOf]; omega
          have hpa : p < (arcsOf R L).length := by rw [arcsOf_length]; exact hlp
          obtain ⟨b, off, rfl, hb, c1, c2', c3, c4, c5⟩ := hx.ext hE p hpa
          have hg : (arcsOf R L)[p] = arcOf R (gi L p) := by rw [gi_at hlp]; simp [arcsOf]
          rw [hg] at c1 c2' c3
          have hsin := HL.out (gi L p) (by rw [gi_at hlp]; exact List.getElem_mem _)
          have Hsucc : Hid (inW R L X (p + 1) = relaxW R L (inW R L X p) p) := Lib.hid rfl
          have HQ := Lib.hid (inW_ok Hok.out HL.out HSj.out p hp)
          have hfr := stFr_bd Hok.out hsin
          have hto := stTo_bd Hok.out hsin
          have hln := stLn_bd Hok.out hsin
          have Hr1 := Lib.hid (relaxW_no1 (R := R) (L := L) (st := inW R L X p) (i := p))
          have Hr2 := Lib.hid (relaxW_no2 (R := R) (L := L) (st := inW R L X p) (i := p))
          have Hr3 := Lib.hid (relaxW_yes (R := R) (L := L) (st := inW R L X p) (i := p))
          have Hx2 := Lib.hid (fun W (hW : Ext w W) => (hx.ext hW p hpa))
          have Hg2 := Lib.hid hg
          clear hg hsin c4 c5
          unfold arcOf at c1 c2' c3 Hg2
          simp only at c1 c2' c3
          generalize inW R L X p = Y at *
          generalize hfrv : stFr R (gi L p) = fr at *
          generalize htov : stTo R (gi L p) = tt at *
          generalize hlnv : stLn R (gi L p) = ln at *
          clear hfrv htov hlnv
          obtain ⟨u, rfl⟩ := Int.eq_ofNat_of_zero_le hfr.1
          obtain ⟨t, rfl⟩ := Int.eq_ofNat_of_zero_le hto.1
          rw [Int.toNat_natCast, Int.toNat_natCast] at Hr3 Hr2
          rw [Int.toNat_natCast] at Hr1
          have bp := HQ.out.bd u (by omega)
          have bt := HQ.out.bd t (by omega)
          have la := HQ.out.la
          have lb := HQ.out.lb
          have hul : u < Y.at_.length := by omega
          have htl : t < Y.at_.length := by omega
          have htb : t < Y.by_.length := by omega
          clear la lb
          have p1 := HA.out.cell hul
          have p2 := HA.out.cell htl
          have p3 := HB'.out.cell htb
          rw [gi_def] at p1 p2
          have fA := HA.out.froz t
          have fB := HB'.out.froz t
          generalize hv1 : gi Y.at_ u = A at *
          generalize hv2 : gi Y.at_ t = B at *
          have Hv1 := Lib.hid hv1
          have Hv2 := Lib.hid hv2
          clear hv1 hv2
          by_cases q1 : A < 1000000
          case neg =>
            have hd1 : decide (A < 1000000) = false := decide_eq_false q1
            have Hx := Lib.hid (Hr1.out (by omega))
            go_wp2_with fail
            refine wp_region_ext (by kernel_rfl) (by kernel_rfl) ?_
            repeat (go_big_quiet_step (fail))
            refine wpQuiet_nil ?_
            intro w6 hX6
            go_wp2_with fail
            go_roundw
            case rel => exact ⟨p + 1, by omega, by go_num, hX.trans' hX6, by rw [Hsucc.out, Hx.out]; exact Lib.hid (HA.out.ext hX6), by rw [Hsucc.out, Hx.out]; exact Lib.hid (HB'.out.ext hX6)⟩
            case measure => simp [intOf]; omega
          have hd1 : decide (A < 1000000) = true := decide_eq_true q1
          by_cases q2 : A + ln < B
          case neg =>
            have hd2 : decide (A + ln < B) = false := decide_eq_false q2
            have Hx := Lib.hid (Hr2.out (by omega))
            go_wp2_with fail
            refine wp_region_ext (by kernel_rfl) (by kernel_rfl) ?_
            repeat (go_big_quiet_step (fail))
            refine wpQuiet_nil ?_
            intro w6 hX6
            go_wp2_with fail
            go_roundw
            case rel => exact ⟨p + 1, by omega, by go_num, hX.trans' hX6, by rw [Hsucc.out, Hx.out]; exact Lib.hid (HA.out.ext hX6), by rw [Hsucc.out, Hx.out]; exact Lib.hid (HB'.out.ext hX6)⟩
            case measure => simp [intOf]; omega
          have hd2 : decide (A + ln < B) = true := decide_eq_true q2
          have Hx := Lib.hid (Hr3.out (by omega) (by omega))
          go_wp2_with fail
          refine wp_region_ext (by kernel_rfl) (by kernel_rfl) ?_
          repeat (go_big_quiet_step (fail))
          refine wpQuiet_nil ?_
          intro w6 hX6
          have HA6 := Lib.hid (HA.out.ext hX6)
          have HB6 := Lib.hid (HB'.out.ext hX6)
          have hE6 := hE.trans' hX6
          have hX66 := hX.trans' hX6
          clear p1 p2 p3 fA fB sA sB c1 c2' c3 g0 hzr
          obtain ⟨b', off', hbe, hb', c1, c2', c3, _, _⟩ := Hx2.out _ hE6
          simp only [Option.some.injEq, Addr.mk.injEq, and_true] at hbe
          obtain ⟨rfl, rfl⟩ := hbe
          rw [Hg2.out] at c1 c2' c3
          simp only at c1 c2' c3
          have p1 := HA6.out.cell hul
          have p2 := HA6.out.cell htl
          rw [gi_def, Hv1.out] at p1
          rw [gi_def, Hv2.out] at p2
          have fA := HA6.out.froz t
          have sA := HA6.out.slot
          go_wp2_with fail
          refine wp_region_ext_tail 21 (by kernel_rfl) (by kernel_rfl) ?_
          simp only [List.take_succ_cons, List.take_zero, List.drop_succ_cons, List.drop_zero]
          repeat (go_big_quiet_step (fail))
          refine wpQuiet_nil ?_
          intro w7 hX7
          have HA7 := Lib.hid (HA6.out.ext hX7)
          have HB7 := Lib.hid (HB6.out.ext hX7)
          have hX77 := hX66.trans' hX7
          clear p1 p2 fA sA c1 c2' c3
          have p2 := HA7.out.cell htl
          have fA := HA7.out.froz t
          have sA := HA7.out.slot
          have sB := HB7.out.slot
          have HA8 := Lib.hid ((HA7.out.store t (A + ln)).other (g' := gB) (fun e => hne e.symm) t (.int .i64 p))
          have HB8 := Lib.hid ((HB7.out.other (g' := gA) hne t (.int .i64 (A + ln))).store t p)
          have p3 := (HB7.out.other (g' := gA) hne t (.int .i64 (A + ln))).cell htb
          have fB := (HB7.out.other (g' := gA) hne t (.int .i64 (A + ln))).froz t
          have hX8 : Ext w0 (w7.setCell ⟨gA, t, none⟩ (.int .i64 (A + ln))) := hX77.setCell (p := ⟨gA, t, none⟩) sA.2.2 (.int .i64 (A + ln))
          have hE8 := hE0.trans' hX8
          obtain ⟨b', off', hbe, hb', c1, c2', c3, _, _⟩ := Hx2.out _ hE8
          simp only [Option.some.injEq, Addr.mk.injEq, and_true] at hbe
          obtain ⟨rfl, rfl⟩ := hbe
          rw [Hg2.out] at c1 c2' c3
          simp only at c1 c2' c3
          have hX9 := hX8.setCell (p := ⟨gB, t, none⟩) sB.2.2 (.int .i64 p)
          have sB8 : gB < (w7.setCell ⟨gA, t, none⟩ (.int .i64 (A + ln))).heap.size := by simp; exact sB.1
          go_wp2_with fail
          go_roundw
          case rel => exact ⟨p + 1, by omega, by go_num, hX9, by rw [Hsucc.out, Hx.out]; exact HA8, by rw [Hsucc.out, Hx.out]; exact HB8⟩
          case measure => simp [intOf]; omega
end Go.Proofs.Ytbejgbflipoboaa
