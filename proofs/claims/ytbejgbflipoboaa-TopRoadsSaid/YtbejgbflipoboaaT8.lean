/- Contracts of roads: reach. -/
import Derived.Test.YtbejgbflipoboaaP2
import Derived.Test.YtbejgbflipoboaaT7
namespace Go.Proofs.Ytbejgbflipoboaa
open Go.RowKit
attribute [local go_sem] GW.cell
theorem row_away {W : World} {base : Nat} {e : TypeId} {size k : Nat} {v : Value} {xs : List Value} (h : W.ownsRow base e size v k xs) {B : Nat} (hB : B < base) : some B ≠ v.ownBlock := by
  rcases h.2 with ⟨rfl, _⟩ | ⟨g, cap, cur, rfl, hb, hg, _⟩
  · simp [Value.ownBlock]
  · intro e2
    have : B = g := by simpa [Value.ownBlock] using e2
    omega
/-- what reach hands back -/
def RetReach (M : Nat) (X : RS) (w : World) (e : Ending) (w' : World) : Prop :=
  ∃ gA cA gB, e = .returned (.tuple #[.slice (some ⟨gA, 0, none⟩) M cA, .slice (some ⟨gB, 0, none⟩) M M, .int .i64 X.last]) ∧ OwnG w' 3 w.heap.size gA M cA X.at_ ∧ OwnG w' 78 w.heap.size gB M M X.by_ ∧ gA ≠ gB ∧ Ext w w'
set_option maxRecDepth 20000 in
set_option maxHeartbeats 16000000 in
theorem f76_c (M : Nat) (a : Option Addr) (n c : Nat) (R : List Road) (a2 : Option Addr) (n2 c2 : Nat) (f : List Int) (b3 o3 c3 : Nat) (first : List Int) (w : World) (hl : Roads w a R) (hn : R.length = n) (hok : NetOk (M : Int) R) (hx : Ints w a2 f) (hn2 : f.length = n2) (hle : f.length = R.length) (hf : Ints w (some ⟨b3, o3, none⟩) first) (hfl : first.length = M) (hfb : ∀ i, i < M → 0 ≤ gi first i ∧ gi first i ≤ 1099511627776) :
    Calls Try.prog 76 #[.agg #[.int .i64 (M : Int), .slice a n c], .slice a2 n2 c2, .slice (some ⟨b3, o3, none⟩) M c3] w (RetReach M (reachR M R f first) w) := by
  subst hn hn2
  obtain ⟨i0, hi0⟩ := info_parts info78
  have Hi := Lib.hid hi0
  clear hi0
  have hM := hok.n1
  have h12 := hok.r12
  have HL := Lib.hid (stepsTo_in R f R.length)
  have hLl := stepsTo_length R f R.length
  have Hok := Lib.hid hok
  have Hle := Lib.hid hle
  have HS0 : Hid (RsOk M 0 ⟨first, List.replicate M 0, 0⟩) := Lib.hid ⟨hfl, by simp, fun i hi => by have := hfb i hi; show -(((0 : Nat) : Int) * 99) ≤ gi first i ∧ gi first i ≤ 1099511627776; omega⟩
  have HSt := Lib.hid (fun j => reachTo_ok hok HL.out (by omega) HS0.out j)
  have H72 := Lib.hid (fun W (hW : Ext w W) => f72_c (M : Int) a R.length c R a2 f.length c2 f W (hl.ext hW) rfl h12 (hx.ext hW) rfl hle)
  have H73 := Lib.hid (fun W (hW : Ext w W) s (hs : StepIn R.length s) => f73_c s (M : Int) a R.length c R W (hl.ext hW) rfl hok hs)
  unfold reachR
  generalize stepsTo R f R.length = L at *
  have hE0 := ext_alloc w (.cells #[.int .i64 (M : Int), .slice a R.length c] 24)
  have HB := Lib.hid (BlkC.new w #[.int .i64 (M : Int), .slice a R.length c] 24)
  have hz := HB.out.lt
  clear hok hle hfb hx
  go_enter Try.func76, Try.ntmps76
  go_wp2_with fail
  generalize (w.alloc (.cells #[.int .i64 (M : Int), .slice a R.length c] 24)) = w0 at *
  refine (f81_c b3 o3 M c3 first w0 (hf.ext hE0) hfl (by omega) (by omega)).mono ?_
  rintro e w1 ⟨gA, cA, rfl, hA, hX1⟩
  have hzA := hA.slot
  have HA := Lib.hid hA
  have g0 := (HB.out.ext hX1).cellv 0 (v := .int .i64 (M : Int)) rfl
  have hz1 := (HB.out.ext hX1).lt
  have hs1 := hX1.size
  clear hA hf
  go_wp2_with (at_make; refine wpList_make_full _ rfl (.tmp 17) (.tmp 17) 76 rfl w1.heap.size 78 i0 (.int .i64 0) 1 Try.underlying76 Hi.out.1 Hi.out.2.1 Hi.out.2.2.1 .i64 .i64 M M M rfl rfl rfl rfl (by rw [Hi.out.2.2.2]; omega) (by unfold maxLen; omega) (by simp) ?_; intro w2 hrow hgrow; have hX2 : Ext w1 w2 := (Below.refl _ w1).grown hgrow (Nat.le_refl _) (by simp); rw [show (Value.int IntKind.i64 0).cells = #[.int .i64 0] from rfl, made_one] at hrow; have Hrow := Lib.hid hrow; clear hrow hgrow; have g0w := (HB.out.ext (hX1.trans' hX2)).cellv 0 (v := .int .i64 (M : Int)) rfl; have hz2 := (HB.out.ext (hX1.trans' hX2)).lt)
  generalize hgB : w1.heap.size = gB at *
  have hgBw : gB ≤ w1.heap.size ∧ w1.heap.size ≤ gB := by omega
  clear hgB
  have HB2 : Hid (OwnG w2 78 w0.heap.size gB M M (List.replicate M 0)) := Lib.hid (by
    have := Hrow.out
    rw [← List.map_replicate] at this
    exact row_base this (by omega))
  have HA2 := Lib.hid (HA.out.ext hX2)
  have hY2 := hX1.trans' hX2
  have hAB : gA ≠ gB := by omega
  clear Hrow HA g0 g0w hz1 hz2
  go_loopw [8, 21] (fun lst i wr => ∃ j : Nat, j ≤ M ∧ i = .int .i64 j ∧ lst = .int .i64 (reachTo R L ⟨first, List.replicate M 0, 0⟩ j).last ∧ Ext w0 wr ∧ Hid (OwnG wr 3 w0.heap.size gA M cA (reachTo R L ⟨first, List.replicate M 0, 0⟩ j).at_) ∧ Hid (OwnG wr 78 w0.heap.size gB M M (reachTo R L ⟨first, List.replicate M 0, 0⟩ j).by_)) (fun _ i _ => M - (intOf i).toNat)
  case atStart => exact ⟨0, Nat.zero_le _, rfl, rfl, hY2, HA2, HB2⟩
  case round =>
    obtain ⟨j, hj, rfl, rfl, hX, KA, KB⟩ := hrel
    have hE := hE0.trans' hX
    have g0 := (HB.out.ext hX).cellv 0 (v := .int .i64 (M : Int)) rfl
    have g1 := (HB.out.ext hX).cellv 1 (v := .slice a R.length c) rfl
    have hzr := (HB.out.ext hX).lt
    by_cases hlt : j < M
    case neg =>
      obtain rfl : j = M := by omega
      have HR : Hid (RetReach j (reachTo R L ⟨first, List.replicate j 0, 0⟩ j) w (.returned (.tuple #[.slice (some ⟨gA, 0, none⟩) j cA, .slice (some ⟨gB, 0, none⟩) j j, .int .i64 (reachTo R L ⟨first, List.replicate j 0, 0⟩ j).last])) wr) := Lib.hid ⟨gA, cA, gB, rfl, KA.out.base hE0.size, KB.out.base hE0.size, hAB, hE⟩
      generalize reachTo R L ⟨first, List.replicate j 0, 0⟩ j = X at *
      go_wp2_with fail
      go_ret3
      exact HR.out
    have HSj := Lib.hid (HSt.out j)
    have Hnext : Hid (reachTo R L ⟨first, List.replicate M 0, 0⟩ (j + 1) = roundR R L (reachTo R L ⟨first, List.replicate M 0, 0⟩ j)) := Lib.hid rfl
    generalize reachTo R L ⟨first, List.replicate M 0, 0⟩ j = X at *
    go_wp2_with fail
    refine (H72.out _ hE).mono ?_
    rintro e w3 ⟨vS, rfl, hS, hX3⟩
    obtain ⟨aS, cS, rfl⟩ := slice_form hS
    have HS := Lib.hid hS
    have hr3 := hX3.size
    have hY3 := hX.trans' hX3
    have KA3 := Lib.hid (KA.out.ext hX3)
    have KB3 := Lib.hid (KB.out.ext hX3)
    have gAr := KA.out.slot.1
    have gBr := KB.out.slot.1
    have hSA := row_away hS gAr
    have hSB := row_away hS gBr
    obtain ⟨wo, rfl⟩ : ∃ wo : World, wo = wr := ⟨_, rfl⟩
    clear hS g0 g1 hzr KA KB
    go_wp2_with fail
    go_loopw [8, 27] (fun lst i wr => ∃ q : Nat, q ≤ L.length ∧ i = .int .i64 q ∧ lst = .int .i64 (inRound R L X q).last ∧ Ext w0 wr ∧ (Hid (OwnG wr 3 w0.heap.size gA M cA (inRound R L X q).at_) ∧ Hid (OwnG wr 78 w0.heap.size gB M M (inRound R L X q).by_)) ∧ Hid (wr.ownsRow wo.heap.size 78 1 (.slice aS L.length cS) L.length (L.map (.int .i64)))) (fun _ i _ => L.length - (intOf i).toNat)
    case atStart => exact ⟨0, Nat.zero_le _, rfl, rfl, hY3, ⟨KA3, KB3⟩, HS⟩
    case round =>
      obtain ⟨q, hq, rfl, rfl, hX4, ⟨KA, KB⟩, HS⟩ := hrel
      have hE4 := hE0.trans' hX4
      have g0 := (HB.out.ext hX4).cellv 0 (v := .int .i64 (M : Int)) rfl
      have g1 := (HB.out.ext hX4).cellv 1 (v := .slice a R.length c) rfl
      have hzr := (HB.out.ext hX4).lt
      by_cases hlq : q < L.length
      case neg =>
        obtain rfl : q = L.length := by omega
        rw [inRound_all] at KA KB ⊢
        go_wp2_with fail
        go_roundw
        case rel => exact ⟨j + 1, by omega, by go_num, by rw [Hnext.out], hX4, by rw [Hnext.out]; exact KA, by rw [Hnext.out]; exact KB⟩
        case measure => simp [intOf]; omega
      have Hsucc := Lib.hid (inRound_succ (R := R) hlq X)
      have HQ := Lib.hid (fold_ok Hok.out HL.out (last_ok HSj.out (-1)) q hq)
      have HQ2 : Hid (RsOk M (j * 24 + q) (inRound R L X q)) := Lib.hid HQ.out
      obtain ⟨ad, cp, he, hI⟩ := ints_of_row HS.out
      have he' : aS = ad := by injection he
      subst he'
      obtain ⟨b5, o5, rfl, hb5, hc5⟩ := hI q hlq
      rw [List.getElem?_eq_getElem hlq, Option.getD_some] at hc5
      have hsin := HL.out _ (List.getElem_mem hlq)
      generalize L[q] = s at *
      have C73 := Lib.hid (fun W (hW : Ext w W) => H73.out W hW s hsin)
      have hfr := stFr_bd Hok.out hsin
      have hto := stTo_bd Hok.out hsin
      have hln := stLn_bd Hok.out hsin
      have Hr1 := Lib.hid (relax_no1 (R := R) (st := inRound R L X q) (s := s))
      have Hr2 := Lib.hid (relax_no2 (R := R) (st := inRound R L X q) (s := s))
      have Hr3 := Lib.hid (relax_yes (R := R) (st := inRound R L X q) (s := s))
      clear he hI HQ hsin
      generalize inRound R L X q = Y at *
      generalize stFr R s = fr at *
      generalize stTo R s = to at *
      generalize stLn R s = ln at *
      obtain ⟨p, rfl⟩ := Int.eq_ofNat_of_zero_le hfr.1
      obtain ⟨t, rfl⟩ := Int.eq_ofNat_of_zero_le hto.1
      rw [Int.toNat_natCast, Int.toNat_natCast] at Hr3 Hr2
      rw [Int.toNat_natCast] at Hr1
      have bp := HQ2.out.bd p (by omega)
      have bt := HQ2.out.bd t (by omega)
      have la := HQ2.out.la
      have lb := HQ2.out.lb
      have hpl : p < Y.at_.length := by omega
      have htl : t < Y.at_.length := by omega
      clear la lb
      go_wp2_with fail
      refine (C73.out _ hE4).mono ?_
      rintro e w5 ⟨rfl, hX5⟩
      have hY5 := hX4.trans' hX5
      have KA5 := Lib.hid (KA.out.ext hX5)
      have KB5 := Lib.hid (KB.out.ext hX5)
      have HS5 := Lib.hid (row_ext HS.out hX5)
      have p1 := KA5.out.cell hpl
      have p2 := KA5.out.cell htl
      rw [gi_def] at p1 p2
      have hg5 := KA5.out.slot.1
      clear g0 g1 hzr KA KB HS hc5
      generalize hv1 : gi Y.at_ p = A at *
      generalize hv2 : gi Y.at_ t = B at *
      have Hv1 := Lib.hid hv1
      have Hv2 := Lib.hid hv2
      clear hv1 hv2
      by_cases c1 : A < 1099511627776
      case neg =>
        have hd1 : decide (A < 1099511627776) = false := decide_eq_false c1
        have Hx := Lib.hid (Hr1.out (by omega))
        go_wp2_with fail
        refine wp_region_ext (by kernel_rfl) (by kernel_rfl) ?_
        repeat (go_big_quiet_step (fail))
        refine wpQuiet_nil ?_
        intro w6 hX6
        go_wp2_with fail
        go_roundw
        case rel => exact ⟨q + 1, by omega, by go_num, by rw [Hsucc.out, Hx.out], hY5.trans' hX6, by rw [Hsucc.out, Hx.out]; exact ⟨Lib.hid (KA5.out.ext hX6), Lib.hid (KB5.out.ext hX6)⟩, Lib.hid (row_ext HS5.out hX6)⟩
        case measure => simp [intOf]; omega
      have hd1 : decide (A < 1099511627776) = true := decide_eq_true c1
      by_cases c2 : A + ln < B
      case neg =>
        have hd2 : decide (A + ln < B) = false := decide_eq_false c2
        have Hx := Lib.hid (Hr2.out (by omega))
        go_wp2_with fail
        refine wp_region_ext (by kernel_rfl) (by kernel_rfl) ?_
        repeat (go_big_quiet_step (fail))
        refine wpQuiet_nil ?_
        intro w6 hX6
        go_wp2_with fail
        go_roundw
        case rel => exact ⟨q + 1, by omega, by go_num, by rw [Hsucc.out, Hx.out], hY5.trans' hX6, by rw [Hsucc.out, Hx.out]; exact ⟨Lib.hid (KA5.out.ext hX6), Lib.hid (KB5.out.ext hX6)⟩, Lib.hid (row_ext HS5.out hX6)⟩
        case measure => simp [intOf]; omega
      have hd2 : decide (A + ln < B) = true := decide_eq_true c2
      have Hx := Lib.hid (Hr3.out c1 c2)
      go_wp2_with fail
      refine wp_region_ext (by kernel_rfl) (by kernel_rfl) ?_
      repeat (go_big_quiet_step (fail))
      refine wpQuiet_nil ?_
      intro w6 hX6
      have KA6 := Lib.hid (KA5.out.ext hX6)
      have KB6 := Lib.hid (KB5.out.ext hX6)
      have HS6 := Lib.hid (row_ext HS5.out hX6)
      have hY6 := hY5.trans' hX6
      have p1 := KA6.out.cell hpl
      have p2 := KA6.out.cell htl
      rw [gi_def, Hv1.out] at p1
      rw [gi_def, Hv2.out] at p2
      have hg6 := KA6.out.slot.1
      have hg7 := KB6.out.slot.1
      have hf6 := KA6.out.froz t
      have hltb : t < Y.by_.length := by have := HQ2.out.lb; omega
      have KA7 := Lib.hid ((KA6.out.store t (A + ln)).other (g' := gB) (by omega) t (.int .i64 s))
      have KB7 := Lib.hid ((KB6.out.other (g' := gA) (by omega) t (.int .i64 (A + ln))).store t s)
      have hp3 := (KB6.out.other (g' := gA) (by omega) t (.int .i64 (A + ln))).cell hltb
      have hf7 := (KB6.out.other (g' := gA) (by omega) t (.int .i64 (A + ln))).froz t
      have HS7 := Lib.hid (row_set_other (row_set_other HS6.out hSA t (.int .i64 (A + ln))) hSB t (.int .i64 s))
      have hY7 : Ext w0 _ := (hY6.setCell (p := ⟨gA, t, none⟩) hzA.2.2 (.int .i64 (A + ln))).setCell (p := ⟨gB, t, none⟩) (by omega) (.int .i64 s)
      go_wp2_with fail
      go_roundw
      case rel => exact ⟨q + 1, by omega, by go_num, by rw [Hsucc.out, Hx.out], hY7, by rw [Hsucc.out, Hx.out]; exact ⟨KA7, KB7⟩, HS7⟩
      case measure => simp [intOf]; omega
end Go.Proofs.Ytbejgbflipoboaa
