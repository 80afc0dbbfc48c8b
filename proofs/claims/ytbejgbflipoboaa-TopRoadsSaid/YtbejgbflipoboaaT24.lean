/- Contracts of roads: the reference's cheapest flow. -/
import Derived.Deep.LoopGhost
import Derived.Deep.Cut
import Derived.Deep.CutRange
import Derived.Deep.DeepCutAuto
import Derived.Deep.RegionWith
import Derived.Deep.RegionHeld3
import Derived.RegionTactic
import Derived.BigRegion
import Derived.Test.YtbejgbflipoboaaT10
import Derived.Test.YtbejgbflipoboaaT23
namespace Go.Proofs.Ytbejgbflipoboaa
open Go.RowKit
attribute [local go_sem] GW.cell
/-- what cheapest hands back -/
def RetChp (n : Nat) (r : Option (List Int)) (w : World) (e : Ending) (w' : World) : Prop :=
  (∃ g fl, r = some fl ∧ e = .returned (.tuple #[.slice (some ⟨g, 0, none⟩) n n, .bool true]) ∧ OwnG w' 3 w.heap.size g n n fl ∧ Ext w w') ∨ (r = none ∧ e = .returned (.tuple #[.slice none 0 0, .bool false]) ∧ Ext w w')
theorem addAt_bd2 (l : List Int) (p i j : Nat) : gi l j - 2 ≤ gi (addAt (addAt l p (-1)) i 1) j ∧ gi (addAt (addAt l p (-1)) i 1) j ≤ gi l j + 2 := by
  have h1 := gi_addAt' l p j (-1)
  have h2 := gi_addAt' (addAt l p (-1)) i j 1
  omega
theorem rarcs_row {W : World} {base k n c : Nat} {a : Option Addr} {l : List Rarc} (h : W.ownsRow base 84 5 (.slice a n c) k (rarcV l)) : Rarcs W a l := by
  obtain ⟨a', c', e, hR⟩ := rarcs_of_row h
  injection e with e1
  subst e1
  exact hR
theorem sg_bd (s : Int) : sg s = 1 ∨ sg s = -1 := by unfold sg; split <;> omega
set_option maxRecDepth 20000 in
set_option maxHeartbeats 16000000 in
theorem f67_c (M F : Nat) (a : Option Addr) (n c : Nat) (R : List Road) (b2 o2 c2 : Nat) (x : List Int) (r : Option (List Int)) (w : World) (hl : Roads w a R) (hn : R.length = n) (hok : NetOk (M : Int) R) (hx : Ints w (some ⟨b2, o2, none⟩) x) (hxl : x.length = M) (hs : chpF M R F (List.replicate R.length 0) x = some r) (hF : F ≤ 1000) (hxb : ∀ i, -1000 ≤ gi x i ∧ gi x i ≤ 1000) :
    Calls Try.prog 67 #[.agg #[.int .i64 (M : Int), .slice a n c], .slice (some ⟨b2, o2, none⟩) M c2] w (RetChp n r w) := by
  subst hn
  obtain ⟨i0, hi0⟩ := info_parts info3
  have Hi := Lib.hid hi0
  clear hi0
  have hM := hok.n1
  have h12 := hok.r12
  have Hs := Lib.hid hs
  have hE0 := ext_alloc w (.cells #[.int .i64 (M : Int), .slice a R.length c] 24)
  have HB := Lib.hid (BlkC.new w #[.int .i64 (M : Int), .slice a R.length c] 24)
  have hz := HB.out.lt
  have g1 := HB.out.cellv 1 (v := .slice a R.length c) rfl
  have Hx := Lib.hid (fun W (hW : Ext w W) => reads_ints ((hx.ext hW).ext (ext_alloc W (.cells #[] 3))))
  clear hs hx
  go_enter Try.func67, Try.ntmps67
  go_upto_region 1 with fail
  generalize (w.alloc (.cells #[.int .i64 (M : Int), .slice a R.length c] 24)) = w0 at *
  go_wp2_with (first
    | (at_make; refine wpList_make_full _ rfl (.tmp 17) (.tmp 17) 25 rfl w0.heap.size 3 i0 (.int .i64 0) 1 Try.underlying25 Hi.out.1 Hi.out.2.1 Hi.out.2.2.1 .i64 .i64 R.length R.length R.length rfl rfl rfl rfl (by rw [Hi.out.2.2.2]; omega) (by unfold maxLen; omega) (Nat.le_refl _) ?_; intro w2 hrow hgrow; have hX2 : Ext w0 w2 := (Below.refl _ w0).grown hgrow (Nat.le_refl _) (by simp); have HG0 := Lib.hid (made_own hrow); clear hrow hgrow; have Hrow := Lib.hid (row_empty w2 3 1); have Hxr := Lib.hid (Hx.out w2 (hE0.trans' hX2)))
    | (at_builtin; refine wpList_append_any _ rfl (.tmp 19) (.tmp 20) 25 rfl w2.heap.size 3 i0 (.int .i64 0) 1 8 Try.underlying25 Hi.out.1 Hi.out.2.1 Hi.out.2.2.1 Hi.out.2.2.2 rfl (by omega) (.slice (some ⟨w2.heap.size, 0, none⟩) 0 0) 0 [] rfl Hrow.out _ (some ⟨b2, o2, none⟩) M c2 (x.map (.int .i64)) rfl (by rw [← hxl]; exact Hxr.out) ints_one (by unfold maxLen; omega) (by omega) (by simp) ?_; intro v3 w3 hown hgrow hat; have hX3 := ext_grow (ext_alloc _ _) Hrow.out (Nat.le_refl _) hgrow; rw [Nat.zero_add, List.nil_append] at hown; obtain ⟨gl, cl, rfl, hg8, hg9⟩ := ownsRow_form hown (by omega); have HL0 := Lib.hid hown; clear hown hgrow hat))
  have hsG := HG0.out.slot
  have hne : w0.heap.size ≠ gl := by omega
  have HF0 : Hid (OwnG w3 3 w0.heap.size w0.heap.size R.length R.length (List.replicate R.length 0)) := Lib.hid (HG0.out.ext hX3)
  have HLl : Hid (OwnG w3 3 w0.heap.size gl M cl x) := Lib.hid (OwnG.base HL0.out hX2.size)
  have hX := hX2.trans' hX3
  have hglw : w0.heap.size ≤ gl := by omega
  clear HG0 HL0 hX2 hX3 hsG Hxr Hrow Hx g1 hg8 hg9
  generalize hgf : w0.heap.size = gf at HF0 hne hglw ⊢
  have Hgf := Lib.hid hgf
  clear hgf
  go_loopg [8] F (fun F' _ wr => ∃ f' l', Hid (chpF M R F' f' l' = some r) ∧ Hid (OwnG wr 3 gf gf R.length R.length f') ∧ Hid (OwnG wr 3 gf gl M cl l') ∧ Ext w0 wr ∧ F' ≤ F ∧ Hid (∀ j, -(20 * ((F : Int) - F')) ≤ gi f' j ∧ gi f' j ≤ 20 * ((F : Int) - F')) ∧ Hid (∀ j, -(1000 + 2 * ((F : Int) - F')) ≤ gi l' j ∧ gi l' j ≤ 1000 + 2 * ((F : Int) - F')))
  case atStart => exact ⟨_, _, Hs, HF0, by rw [← Hgf.out]; exact HLl, hX, Nat.le_refl _, Lib.hid (fun j => by rw [gi_rep]; omega), Lib.hid (fun j => by have := hxb j; omega)⟩
  case round =>
    obtain ⟨f', l', HS, KF, KL, hXr, hFF, HbF, HbL⟩ := hrel
    have hEr := hE0.trans' hXr
    have hlM : l'.length ≤ M ∧ M ≤ l'.length := by have := KL.out.len; omega
    have hfM : f'.length = R.length := KF.out.len
    obtain ⟨wo, rfl⟩ : ∃ wo : World, wo = wr := ⟨_, rfl⟩
    go_wp2_with fail
    go_loopw [8] (fun i wr => ∃ k : Nat, k ≤ M ∧ i = .int .i64 k ∧ Hid (∀ j, j < k → gi l' j ≤ 0) ∧ wr = wo) (fun i _ => M - (intOf i).toNat)
    case atStart => exact ⟨0, Nat.zero_le _, rfl, Lib.hid (fun j hj => absurd hj (Nat.not_lt_zero j)), rfl⟩
    case round =>
      obtain ⟨k, hk, rfl, HK, rfl⟩ := hrel
      have g0 := (HB.out.ext hXr).cellv 0 (v := .int .i64 (M : Int)) rfl
      have g1 := (HB.out.ext hXr).cellv 1 (v := .slice a R.length c) rfl
      have hzr := (HB.out.ext hXr).lt
      have hsL := KL.out.slot
      have hsF := KF.out.slot
      obtain ⟨F2, hF2, hstep⟩ := chp_step HS.out
      by_cases hkM : k < M
      case neg =>
        obtain rfl : k = M := by omega
        have hsrc : srcOf l' = k := by
          have := srcOf_eq (l := l') (k := k) (by omega) HK.out (.inl (by omega))
          exact this
        have hr : r = some f' := by
          rcases hstep with ⟨_, h⟩ | ⟨h, _⟩ | ⟨h, _⟩
          · exact h
          · exact absurd hsrc h
          · exact absurd hsrc h
        have HR : Hid (RetChp R.length r w (.returned (.tuple #[.slice (some ⟨gf, 0, none⟩) R.length R.length, .bool true])) wr) := Lib.hid (.inl ⟨gf, f', hr, rfl, KF.out.base (by rw [← Hgf.out]; exact hE0.size), hEr⟩)
        clear hstep hr hsrc
        go_wp2_with fail
        go_ret2
        exact HR.out
      have c1 := KL.out.cell (i := k) (by omega)
      rw [gi_def] at c1
      by_cases hk0 : gi l' k ≤ 0
      case pos =>
        have hd : decide (gi l' k ≤ 0) = true := decide_eq_true hk0
        have HK2 : Hid (∀ j, j < k + 1 → gi l' j ≤ 0) := Lib.hid (fun j hj => by
          rcases Nat.lt_succ_iff_lt_or_eq.1 hj with h | rfl
          · exact HK.out j h
          · exact hk0)
        clear hstep hk0
        generalize gi l' k = v at *
        go_wp2_with fail
        go_roundw
        case rel => exact ⟨k + 1, by omega, by go_num, HK2, by first | rfl | trivial⟩
        case measure => simp [intOf]; omega
      have hd : decide (gi l' k ≤ 0) = false := decide_eq_false hk0
      have hsrc : srcOf l' = k := srcOf_eq (l := l') (k := k) (by omega) HK.out (.inr (by omega))
      rw [hsrc] at hstep
      have Hstep := Lib.hid hstep
      have HL24 : Hid ((stepsTo R f' R.length).length ≤ 24) := Lib.hid (by have := stepsTo_length R f' R.length; omega)
      have HLin := Lib.hid (stepsTo_in R f' R.length)
      have hkM2 : (k == M) = false := by simp; omega
      have hkM3 : ((k : Int) == (M : Int)) = false := by simp; omega
      have Hk0 : Hid (0 < gi l' k) := Lib.hid (by omega)
      clear hstep hsrc hk0
      generalize hvk : gi l' k = vk at c1 hd
      have Hvk := Lib.hid hvk
      clear hvk
      have hglq := hsL.1
      have hgfq := hsF.1
      obtain ⟨wq, hwq⟩ : ∃ wq : World, wq = wr := ⟨_, rfl⟩
      subst hwq
      go_wp2_with fail
      refine (f74_c (M : Int) a R.length c R (some ⟨gf, 0, none⟩) R.length R.length f' wq (hl.ext hEr) rfl h12 KF.out.ints hfM hfM (fun q hq => hok.ln q hq)).mono ?_
      rintro e w4 ⟨v4, rfl, hA4, hX4⟩
      obtain ⟨a4, c4, ev4, hR4⟩ := rarcs_of_row hA4
      subst ev4
      have hln4 : (arcsOf R (stepsTo R f' R.length)).length = (stepsTo R f' R.length).length := arcsOf_length _ _
      have HR4 := Lib.hid hR4
      have hX04 := hXr.trans' hX4
      have KF4 := Lib.hid (KF.out.ext hX4)
      have KL4 := Lib.hid (KL.out.ext hX4)
      rw [hln4]
      have HRow4 := Lib.hid hA4
      rw [hln4] at HRow4
      clear hA4 hR4 c1 g0 g1 hzr hsL hsF KF KL hln4
      generalize hLL : stepsTo R f' R.length = L at *
      have hLl := HL24.out
      have g0 := (HB.out.ext hX04).cellv 0 (v := .int .i64 (M : Int)) rfl
      have g1 := (HB.out.ext hX04).cellv 1 (v := .slice a R.length c) rfl
      have hzr := (HB.out.ext hX04).lt
      go_wp2_with fail
      refine (f83_c M a R.length c R a4 L.length c4 L k w4 hok HR4.out rfl HLin.out hLl hkM).mono ?_
      rintro e w5 ⟨gA, gB, rfl, hA5, hB5, hAB, hX5⟩
      have HWs : Hid (WsOk M (M * 24) L.length (waysR M R L k)) := Lib.hid (waysTo_ok hok HLin.out hLl (startW_ok L.length hkM) M)
      generalize hXX : waysR M R L k = X at *
      have hX05 := hX04.trans' hX5
      have KF5 := Lib.hid (KF4.out.ext hX5)
      have KL5 := Lib.hid (KL4.out.ext hX5)
      have HA5 := Lib.hid hA5
      have HB5 := Lib.hid hB5
      have HRow5 := Lib.hid (row_ext HRow4.out hX5)
      have sgA := hA5.slot
      have sgB := hB5.slot
      have hw4 : gf < w4.heap.size ∧ gl < w4.heap.size := ⟨KF4.out.slot.1, KL4.out.slot.1⟩
      have hlA : X.at_.length ≤ M ∧ M ≤ X.at_.length := by have := hA5.len; omega
      have hlB : X.by_.length ≤ M ∧ M ≤ X.by_.length := by have := hB5.len; omega
      clear hA5 hB5 g0 g1 hzr KF4 KL4 HR4
      have hw04 := hX04.size
      go_wp2_with fail
      go_loopw [12, 13] (fun v i wr => ∃ s : Nat, s ≤ M ∧ i = .int .i64 s ∧ v = .int .i64 (bestW l' X.at_ s) ∧ Ext w0 wr ∧ Hid (OwnG wr 3 gf gf R.length R.length f') ∧ Hid (OwnG wr 3 gf gl M cl l') ∧ Hid (OwnG wr 3 w4.heap.size gA M M X.at_) ∧ Hid (OwnG wr 3 w4.heap.size gB M M X.by_) ∧ Hid (wr.ownsRow wq.heap.size 84 5 (.slice a4 L.length c4) L.length (rarcV (arcsOf R L)))) (fun _ i _ => M - (intOf i).toNat)
      case atStart => exact ⟨0, Nat.zero_le _, rfl, rfl, hX05, KF5, KL5, HA5, HB5, HRow5⟩
      case round =>
        obtain ⟨s, hs, rfl, rfl, hX7, KF, KL, KA, KB, HRow⟩ := hrel
        have hbb := bestW_bd l' X.at_ s
        have g0 := (HB.out.ext hX7).cellv 0 (v := .int .i64 (M : Int)) rfl
        have hzr := (HB.out.ext hX7).lt
        have hsL := KL.out.slot
        have hsF := KF.out.slot
        by_cases hlt : s < M
        case pos =>
          have c1 := KL.out.cell (i := s) (by omega)
          have c2 := KA.out.cell (i := s) (by omega)
          rw [gi_def] at c1 c2
          have hz2 := KA.out.slot.1
          by_cases d1 : gi l' s < 0
          case neg =>
            have e1 : decide (gi l' s < 0) = false := decide_eq_false d1
            have Hst := Lib.hid (bestW_no1 (a := X.at_) d1)
            generalize gi l' s = v at *
            generalize gi X.at_ s = u at *
            generalize bestW l' X.at_ s = bb at *
            go_wp2_with fail
            refine wp_region_ext (by kernel_rfl) (by kernel_rfl) ?_
            repeat (go_big_quiet_step (fail))
            refine wpQuiet_nil ?_
            intro w8 hX8
            go_wp2_with fail
            go_roundw
            case rel => exact ⟨s + 1, by omega, by go_num, by rw [Hst.out], hX7.trans' hX8, Lib.hid (KF.out.ext hX8), Lib.hid (KL.out.ext hX8), Lib.hid (KA.out.ext hX8), Lib.hid (KB.out.ext hX8), Lib.hid (row_ext HRow.out hX8)⟩
            case measure => simp [intOf]; omega
          have e1 : decide (gi l' s < 0) = true := decide_eq_true d1
          by_cases d2 : gi X.at_ s < 1000000
          case neg =>
            have e2 : decide (gi X.at_ s < 1000000) = false := decide_eq_false d2
            have Hst := Lib.hid (bestW_no2 (l := l') d2)
            generalize gi l' s = v at *
            generalize gi X.at_ s = u at *
            generalize bestW l' X.at_ s = bb at *
            go_wp2_with fail
            refine wp_region_ext (by kernel_rfl) (by kernel_rfl) ?_
            repeat (go_big_quiet_step (fail))
            refine wpQuiet_nil ?_
            intro w8 hX8
            go_wp2_with fail
            go_roundw
            case rel => exact ⟨s + 1, by omega, by go_num, by rw [Hst.out], hX7.trans' hX8, Lib.hid (KF.out.ext hX8), Lib.hid (KL.out.ext hX8), Lib.hid (KA.out.ext hX8), Lib.hid (KB.out.ext hX8), Lib.hid (row_ext HRow.out hX8)⟩
            case measure => simp [intOf]; omega
          have e2 : decide (gi X.at_ s < 1000000) = true := decide_eq_true d2
          by_cases d3 : bestW l' X.at_ s < 0
          case pos =>
            have e3 : decide (bestW l' X.at_ s < 0) = true := decide_eq_true d3
            have Hst := Lib.hid (bestW_yes1 d1 d2 d3)
            generalize gi l' s = v at *
            generalize gi X.at_ s = u at *
            generalize bestW l' X.at_ s = bb at *
            go_wp2_with fail
            refine wp_region_ext (by kernel_rfl) (by kernel_rfl) ?_
            repeat (go_big_quiet_step (fail))
            refine wpQuiet_nil ?_
            intro w8 hX8
            go_wp2_with fail
            go_roundw
            case rel => exact ⟨s + 1, by omega, by go_num, by rw [Hst.out], hX7.trans' hX8, Lib.hid (KF.out.ext hX8), Lib.hid (KL.out.ext hX8), Lib.hid (KA.out.ext hX8), Lib.hid (KB.out.ext hX8), Lib.hid (row_ext HRow.out hX8)⟩
            case measure => simp [intOf]; omega
          have e3 : decide (bestW l' X.at_ s < 0) = false := decide_eq_false d3
          obtain ⟨p, hp⟩ := Int.eq_ofNat_of_zero_le (show 0 ≤ bestW l' X.at_ s by omega)
          have hpq : p < X.at_.length := by omega
          have c3 := KA.out.cell hpq
          rw [gi_def] at c3
          by_cases d4 : gi X.at_ s < gi X.at_ p
          case pos =>
            have e4 : decide (gi X.at_ s < gi X.at_ p) = true := decide_eq_true d4
            have Hst := Lib.hid (bestW_yes2 d1 d2 hp d4)
            rw [hp] at e3 ⊢
            clear hp d3 hbb
            generalize gi X.at_ p = z at *
            generalize gi l' s = v at *
            generalize gi X.at_ s = u at *
            go_wp2_with fail
            refine wp_region_ext (by kernel_rfl) (by kernel_rfl) ?_
            repeat (go_big_quiet_step (fail))
            refine wpQuiet_nil ?_
            intro w8 hX8
            go_wp2_with fail
            go_roundw
            case rel => exact ⟨s + 1, by omega, by go_num, by rw [Hst.out], hX7.trans' hX8, Lib.hid (KF.out.ext hX8), Lib.hid (KL.out.ext hX8), Lib.hid (KA.out.ext hX8), Lib.hid (KB.out.ext hX8), Lib.hid (row_ext HRow.out hX8)⟩
            case measure => simp [intOf]; omega
          have e4 : decide (gi X.at_ s < gi X.at_ p) = false := decide_eq_false d4
          have Hst := Lib.hid ((bestW_no3 hp d4).trans hp)
          rw [hp] at e3 ⊢
          clear hp d3 hbb
          generalize gi X.at_ p = z at *
          generalize gi l' s = v at *
          generalize gi X.at_ s = u at *
          go_wp2_with fail
          refine wp_region_ext (by kernel_rfl) (by kernel_rfl) ?_
          repeat (go_big_quiet_step (fail))
          refine wpQuiet_nil ?_
          intro w8 hX8
          go_wp2_with fail
          go_roundw
          case rel => exact ⟨s + 1, by omega, by go_num, by rw [Hst.out], hX7.trans' hX8, Lib.hid (KF.out.ext hX8), Lib.hid (KL.out.ext hX8), Lib.hid (KA.out.ext hX8), Lib.hid (KB.out.ext hX8), Lib.hid (row_ext HRow.out hX8)⟩
          case measure => simp [intOf]; omega
        obtain rfl : s = M := by omega
        have hstep := Hstep.out
        by_cases hb : bestW l' X.at_ s < 0
        · have e1 : decide (bestW l' X.at_ s < 0) = true := decide_eq_true hb
          have hr : r = none := by
            rcases hstep with ⟨h, _⟩ | ⟨_, _, h⟩ | ⟨_, h, _⟩
            · omega
            · exact h
            · omega
          have HR : Hid (RetChp R.length r w (.returned (.tuple #[.slice none 0 0, .bool false])) wr) := Lib.hid (.inr ⟨hr, rfl, hE0.trans' hX7⟩)
          clear hstep Hstep hr hF2 hb
          generalize bestW l' X.at_ s = bb at *
          go_wp2_with fail
          go_ret2
          exact HR.out
        obtain ⟨p, hp⟩ := Int.eq_ofNat_of_zero_le (show 0 ≤ bestW l' X.at_ s by omega)
        rw [hp] at hstep hbb ⊢
        have e1 : decide ((p : Int) < 0) = false := decide_eq_false (by omega)
        rw [Int.toNat_natCast] at hstep
        obtain ⟨f2, HC0, HS2⟩ : ∃ f2, Hid (chainW R L X.by_ k 20 p f' = some f2) ∧ Hid (chpF s R F2 f2 (addAt (addAt l' k (-1)) p 1) = some r) := by
          rcases hstep with ⟨h, _⟩ | ⟨_, h, _⟩ | ⟨_, _, f2, h1, h2⟩
          · omega
          · omega
          · exact ⟨f2, Lib.hid h1, Lib.hid h2⟩
        clear hstep Hstep hb hp
        have hpl : p < l'.length := by omega
        have hkl : k < l'.length := by omega
        have c1 := KL.out.cell hkl
        rw [gi_def, Hvk.out] at c1
        have b1 := HbL.out k
        rw [Hvk.out] at b1
        have hff := KL.out.froz k
        have e2 : addAt l' k (-1) = l'.set k (vk - 1) := by unfold addAt; rw [Hvk.out]; rfl
        have KL2 := Lib.hid (KL.out.store k (vk - 1))
        rw [← e2] at KL2
        have KF2 := Lib.hid (KF.out.other (g' := gl) (fun e => hne e.symm) k (.int .i64 (vk - 1)))
        have KB2 := Lib.hid (KB.out.other (g' := gl) (by omega) k (.int .i64 (vk - 1)))
        have HRow2 := Lib.hid (row_set_other HRow.out (row_old HRow.out hglq) k (.int .i64 (vk - 1)))
        have hX8 : Ext w0 _ := hX7.setCell (p := ⟨gl, k, none⟩) (by rw [Hgf.out]; exact hglw) (.int .i64 (vk - 1))
        have c5 := KL2.out.cell (i := p) (by rw [addAt_length]; exact hpl)
        rw [gi_def] at c5
        have b4 := gi_addAt' l' k p (-1)
        have b5 := HbL.out p
        have hff2 := KL2.out.froz p
        have hsL2 := KL2.out.slot
        have bu : -100000 ≤ gi (addAt l' k (-1)) p ∧ gi (addAt l' k (-1)) p ≤ 100000 := by omega
        have KL3 : Hid (OwnG _ 3 gf gl s cl (addAt (addAt l' k (-1)) p 1)) := Lib.hid (KL2.out.store p (gi (addAt l' k (-1)) p + 1))
        have KF3 := Lib.hid (KF2.out.other (g' := gl) (fun e => hne e.symm) p (.int .i64 (gi (addAt l' k (-1)) p + 1)))
        have KB3 := Lib.hid (KB2.out.other (g' := gl) (by omega) p (.int .i64 (gi (addAt l' k (-1)) p + 1)))
        have HRow3 := Lib.hid (row_set_other HRow2.out (row_old HRow2.out hglq) p (.int .i64 (gi (addAt l' k (-1)) p + 1)))
        have hX10 : Ext w0 _ := hX8.setCell (p := ⟨gl, p, none⟩) (by rw [Hgf.out]; exact hglw) (.int .i64 (gi (addAt l' k (-1)) p + 1))
        have hps : p < s := by omega
        clear b4 b5 e2 HRow HRow2 KL2 KF2 KB2 KA KL KF KB
        generalize gi (addAt l' k (-1)) p = vp at *
        go_wp2_with fail
        clear c1 c5 hff hff2 hsL2 hX8 hX7 g0 hzr
        go_loopg [14] 20 (fun m v wr => ∃ (i : Nat) (fc : List Int), v = .int .i64 i ∧ i < s ∧ m ≤ 20 ∧ Hid (chainW R L X.by_ k m i fc = some f2) ∧ Ext w0 wr ∧ Hid (OwnG wr 3 gf gf R.length R.length fc) ∧ Hid (OwnG wr 3 gf gl s cl (addAt (addAt l' k (-1)) p 1)) ∧ Hid (OwnG wr 3 w4.heap.size gB s s X.by_) ∧ Hid (wr.ownsRow wq.heap.size 84 5 (.slice a4 L.length c4) L.length (rarcV (arcsOf R L))) ∧ Hid (∀ j, gi f' j - (20 - m) ≤ gi fc j ∧ gi fc j ≤ gi f' j + (20 - m)))
        case atStart => exact ⟨p, f', rfl, hps, Nat.le_refl _, HC0, hX10, KF3, KL3, KB3, HRow3, Lib.hid (fun j => by omega)⟩
        case round =>
          obtain ⟨i, fc, rfl, hi, hm, HC, hX9, KF, KL, KB, HRow, HbC⟩ := hrel
          obtain ⟨m2, hm2, hq⟩ := chainW_step HC.out
          by_cases hik : i = k
          · have hd1 : ((i : Int) != (k : Int)) = false := by simp [hik]
            have hd2 : (i == k) = true := by simp [hik]
            have hf2 : f2 = fc := by
              rcases hq with ⟨_, h⟩ | ⟨h, _⟩
              · exact h
              · exact absurd hik h
            have HS3 : Hid (chpF s R F2 fc (addAt (addAt l' k (-1)) p 1) = some r) := Lib.hid (by have := HS2.out; rw [hf2] at this; exact this)
            have HbL2 : Hid (∀ j, -(1000 + 2 * ((F : Int) - F2)) ≤ gi (addAt (addAt l' k (-1)) p 1) j ∧ gi (addAt (addAt l' k (-1)) p 1) j ≤ 1000 + 2 * ((F : Int) - F2)) := Lib.hid (fun j => by have := addAt_bd2 l' k p j; have := HbL.out j; omega)
            have HbF2 : Hid (∀ j, -(20 * ((F : Int) - F2)) ≤ gi fc j ∧ gi fc j ≤ 20 * ((F : Int) - F2)) := Lib.hid (fun j => by have := HbC.out j; have := HbF.out j; omega)
            clear hq hf2
            go_wp2_with fail
            go_roundg F2
            case measure => omega
            case rel => exact ⟨_, _, HS3, KF, KL, hX9, by omega, HbF2, HbL2⟩
          have hd1 : ((i : Int) != (k : Int)) = true := by simp; omega
          have hd2 : (i == k) = false := by simp [hik]
          have hiB : i < X.by_.length := by have := KB.out.len; omega
          have cb := KB.out.cell hiB
          rw [gi_def] at cb
          obtain ⟨hq0, HC2⟩ : 0 ≤ gi X.by_ i ∧ Hid (chainW R L X.by_ k m2 (stFr R (gi L (gi X.by_ i).toNat)).toNat (addAt fc (stepNo (gi L (gi X.by_ i).toNat)) (sg (gi L (gi X.by_ i).toNat))) = some f2) := by
            rcases hq with ⟨h, _⟩ | ⟨_, h1, h2⟩
            · exact absurd h hik
            · exact ⟨h1, Lib.hid h2⟩
          have hbl := (HWs.out.by_ i hi).2
          clear hq
          obtain ⟨d, hd⟩ := Int.eq_ofNat_of_zero_le hq0
          rw [hd] at HC2 hbl cb
          rw [Int.toNat_natCast] at HC2
          have hdL : d < L.length := by omega
          have Hby := Lib.hid hd
          clear hd hq0
          have hdA : d < (arcsOf R L).length := by rw [arcsOf_length]; exact hdL
          have hgA : (arcsOf R L)[d] = arcOf R (gi L d) := by rw [gi_at hdL]; simp [arcsOf]
          have HgA := Lib.hid hgA
          have hsin := HLin.out (gi L d) (by rw [gi_at hdL]; exact List.getElem_mem _)
          have hfr := stFr_bd hok hsin
          have hsno := stepNo_lt hsin
          have hsg := sg_bd (gi L d)
          have Hrw := Lib.hid (fun (W : World) (hW : W.ownsRow wq.heap.size 84 5 (.slice a4 L.length c4) L.length (rarcV (arcsOf R L))) => rarcs_row hW d hdA)
          obtain ⟨bA, oA, eA, hbA, k1, k2, k3, k4, k5⟩ := Hrw.out _ HRow.out
          rw [hgA] at k1 k2 k3 k4 k5
          unfold arcOf at HgA k1 k2 k3 k4 k5
          simp only at k1 k2 k3 k4 k5
          have hfl : stepNo (gi L d) < fc.length := by have := KF.out.len; omega
          have cf := KF.out.cell hfl
          rw [gi_def] at cf
          have bf := HbC.out (stepNo (gi L d))
          have bf2 := HbF.out (stepNo (gi L d))
          have HA9 : Hid (addAt fc (stepNo (gi L d)) (sg (gi L d)) = fc.set (stepNo (gi L d)) (gi fc (stepNo (gi L d)) + sg (gi L d))) := Lib.hid rfl
          have HAb := Lib.hid (fun j => gi_addAt' fc (stepNo (gi L d)) j (sg (gi L d)))
          clear hgA hsin
          subst eA
          generalize hno : stepNo (gi L d) = no at *
          clear hno
          generalize hsgg : sg (gi L d) = sgv at *
          clear hsgg
          generalize stTo R (gi L d) = tt at *
          generalize stLn R (gi L d) = ln at *
          generalize stFr R (gi L d) = fr at *
          obtain ⟨u, rfl⟩ := Int.eq_ofNat_of_zero_le hfr.1
          rw [Int.toNat_natCast] at HC2
          generalize hfv : gi fc no = fv at *
          have Hfv := Lib.hid hfv
          clear hfv
          have hzB := KB.out.slot
          have hzF := KF.out.slot
          have hff := KF.out.froz no
          go_wp2_with fail
          refine wp_region_ext_tail 21 (by kernel_rfl) (by kernel_rfl) ?_
          simp only [List.take_succ_cons, List.take_zero, List.drop_succ_cons, List.drop_zero]
          repeat (go_big_quiet_step (fail))
          refine wpQuiet_nil ?_
          intro w7 hX77
          have KF7 := Lib.hid (KF.out.ext hX77)
          have KL7 := Lib.hid (KL.out.ext hX77)
          have KB7 := Lib.hid (KB.out.ext hX77)
          have HRow7 := Lib.hid (row_ext HRow.out hX77)
          clear cb cf k1 k2 k3 k4 k5 hff hzB hzF hbA
          have hff := KF7.out.froz no
          have hzF := KF7.out.slot
          have cf := KF7.out.cell hfl
          rw [gi_def, Hfv.out] at cf
          have KF8 := Lib.hid (KF7.out.store no (fv + sgv))
          have KL8 := Lib.hid (KL7.out.other (g' := gf) hne no (.int .i64 (fv + sgv)))
          have KB8 := Lib.hid (KB7.out.other (g' := gf) (by omega) no (.int .i64 (fv + sgv)))
          have HRow8 := Lib.hid (row_set_other HRow7.out (row_old HRow7.out hgfq) no (.int .i64 (fv + sgv)))
          have hX11 : Ext w0 _ := (hX9.trans' hX77).setCell (p := ⟨gf, no, none⟩) (by rw [Hgf.out]; exact Nat.le_refl _) (.int .i64 (fv + sgv))
          obtain ⟨bA', oA', eA', hbA, k1, k2, k3, k4, k5⟩ := Hrw.out _ HRow8.out
          simp only [Option.some.injEq, Addr.mk.injEq, and_true] at eA'
          obtain ⟨rfl, rfl⟩ := eA'
          rw [HgA.out] at k1 k2 k3 k4 k5
          simp only at k1 k2 k3 k4 k5
          have cb := KB8.out.cell hiB
          rw [gi_def, Hby.out] at cb
          have hzB := KB8.out.slot
          rw [← HA9.out] at KF8
          go_wp2_with fail
          go_roundg m2
          case measure => omega
          case rel => exact ⟨u, _, rfl, by omega, by omega, HC2, hX11, KF8, KL8, KB8, HRow8, Lib.hid (fun j => by have := HAb.out j; have := HbC.out j; omega)⟩
end Go.Proofs.Ytbejgbflipoboaa
