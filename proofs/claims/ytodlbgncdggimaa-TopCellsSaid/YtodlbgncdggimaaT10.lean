/- Contracts: Weights. -/
import Derived.Test.YtodlbgncdggimaaT9
namespace Go.Proofs.Ytodlbgncdggimaa
open Go.RowKit
attribute [local go_sem] GW.cell

def tAt (sh : List Int) (fr : Int) (k : Nat) : Int := fr + (sh.take k).sum
theorem tAt_zero (sh : List Int) (fr : Int) : tAt sh fr 0 = fr := by simp [tAt]
theorem tAt_succ (sh : List Int) (fr : Int) {k : Nat} (hk : k < sh.length) : tAt sh fr (k + 1) = tAt sh fr k + sh[k] := by
  unfold tAt
  rw [List.take_succ_eq_append_getElem hk, List.sum_append, List.sum_singleton]
  omega
def wAt (pl sh : List Int) (fr : Int) : Nat → Int
  | 0 => 0
  | k + 1 => wAt pl sh fr k + (tAt sh fr (k + 1) - pl[k + 1]?.getD 0) * (tAt sh fr (k + 1) - pl[k + 1]?.getD 0) - (tAt sh fr (k + 1) - pl[k]?.getD 0) * (tAt sh fr (k + 1) - pl[k]?.getD 0)
theorem wAt_succ (pl sh : List Int) (fr : Int) (k : Nat) {t p q : Int} (ht : tAt sh fr (k + 1) = t) (hp : pl[k]?.getD 0 = p) (hq : pl[k + 1]?.getD 0 = q) :
    wAt pl sh fr (k + 1) = wAt pl sh fr k + (t - q) * (t - q) - (t - p) * (t - p) := by rw [wAt, ht, hp, hq]
def okShare (sh : List Int) (fr : Int) (k : Nat) : Bool := withinB (sh[k]?.getD 0) 1 60 && decide (tAt sh fr (k + 1) ≤ 30)
def okW (pl sh : List Int) (fr : Int) : Bool := okLine pl && (decide (sh.length = pl.length) && withinB fr (-30) 30) && (List.range sh.length).all (okShare sh fr)
def wts (pl sh : List Int) (fr : Int) (m : Nat) : List Int := (List.range m).map (wAt pl sh fr)
theorem wts_length (pl sh : List Int) (fr : Int) (m : Nat) : (wts pl sh fr m).length = m := by simp [wts]
theorem wts_succ (pl sh : List Int) (fr : Int) (m : Nat) : wts pl sh fr (m + 1) = wts pl sh fr m ++ [wAt pl sh fr m] := by simp [wts, List.range_succ]
def weightsL (pl sh : List Int) (fr : Int) : List Int := if okW pl sh fr then wts pl sh fr pl.length else []

theorem own_new1 (w : World) (x : Int) : (w.alloc (.cells #[.int .i64 x] 3)).ownsRow w.heap.size 3 1 (.slice (some ⟨w.heap.size, 0, none⟩) 1 1) 1 [.int .i64 x] :=
  ⟨rfl, .inr ⟨w.heap.size, 1, #[.int .i64 x], rfl, Nat.le_refl _, heap_alloc_new w _, Nat.le_refl _, by unfold maxLen; omega, rfl, rfl⟩⟩

theorem okW_no {pl sh : List Int} {fr : Int} (h : ¬ (okLine pl = true ∧ sh.length = pl.length ∧ withinB fr (-30) 30 = true)) : okW pl sh fr = false := by
  cases e : okW pl sh fr with
  | false => rfl
  | true =>
    simp only [okW, Bool.and_eq_true, decide_eq_true_eq] at e
    exact absurd ⟨e.1.1, e.1.2.1, e.1.2.2⟩ h
theorem okW_no_share {pl sh : List Int} {fr : Int} {k : Nat} (hk : k < sh.length) (h : okShare sh fr k = false) : okW pl sh fr = false := by
  cases e : okW pl sh fr with
  | false => rfl
  | true =>
    simp only [okW, Bool.and_eq_true, List.all_eq_true, List.mem_range] at e
    have := e.2 k hk
    rw [h] at this; cases this
theorem okW_yes {pl sh : List Int} {fr : Int} (h1 : okLine pl = true) (h2 : sh.length = pl.length) (h3 : withinB fr (-30) 30 = true) (h : ∀ k, k < sh.length → okShare sh fr k = true) : okW pl sh fr = true := by
  simp only [okW, Bool.and_eq_true, decide_eq_true_eq, List.all_eq_true, List.mem_range]
  exact ⟨⟨h1, h2, h3⟩, h⟩
theorem retErr {L : List Int} {b : Bool} {w w' : World} (hb : b = false) (hE : Ext w w') : RetInts (if b then L else []) (errOf b) w (.returned (.tuple #[.slice none 0 0, .int .i64 1])) w' := by
  subst hb
  exact ⟨none, 0, rfl, fun j hj => by simp at hj, hE⟩

theorem sq_le (t b : Int) (h0 : -b ≤ t) (h1 : t ≤ b) : 0 ≤ t * t ∧ t * t ≤ b * b := by
  have hb : t.natAbs ≤ b.natAbs := by omega
  have h2 : t.natAbs * t.natAbs ≤ b.natAbs * b.natAbs := Nat.mul_le_mul hb hb
  rw [← Int.natAbs_mul_self (a := t), ← Int.natAbs_mul_self (a := b)]
  generalize t.natAbs * t.natAbs = u at *
  generalize b.natAbs * b.natAbs = v at *
  omega

set_option maxRecDepth 100000 in
set_option maxHeartbeats 2000000 in
theorem f46_c (a b : Option Addr) (n m c d : Nat) (pl sh : List Int) (fr : Int) (w : World) (hp : Ints w a pl) (hs : Ints w b sh) (hn : pl.length = n) (hm : sh.length = m) (hlen : n ≤ 140737488355328) (hlen2 : m ≤ 140737488355328) :
    Calls Try.prog 46 #[.slice a n c, .slice b m d, .int .i64 fr] w (RetInts (weightsL pl sh fr) (errOf (okW pl sh fr)) w) := by
  subst hn hm
  obtain ⟨i0, hi, hz0, hz1, hz2⟩ := info_parts info3
  have Hc := Lib.hid (f43_c a pl.length c pl w hp rfl hlen)
  by_cases hok : okLine pl = true
  · by_cases hlenE : sh.length = pl.length
    · have hne : ((sh.length : Int) != (pl.length : Int)) = false := by simp [hlenE]
      by_cases hfr : withinB fr (-30) 30 = true
      · rw [hok] at Hc
        have hfr2 := withinB_iff.1 hfr
        have Hok := Lib.hid hok
        have HlenE := Lib.hid hlenE
        have Hfr := Lib.hid hfr
        clear hok hlenE hfr
        have hpl := (okLine_spec Hok.out).1
        go_enter Try.func46, Try.ntmps46
        go_wp2_with fail
        refine Hc.out.mono ?_
        rintro e w1 ⟨rfl, hE1⟩
        clear Hc
        have hA : allIn 30 [fr] = true := by rw [allIn1]; exact Hfr.out
        unfold errOf
        go_wp2_with fail
        refine (f57_c 30 _ 1 1 [fr] _ (ints_new1 _ _ _ _ (by simp)) (by rfl) (by omega) (by omega) (by omega)).mono ?_
        rintro e w2 ⟨rfl, hE2⟩
        have hEa : Ext w w2 := hE1.trans' ((ext_alloc _ _).trans' hE2)
        go_wp2_with fail
        go_loopw [9, 10, 11, 12, 13, 14, 35] (fun v tt _ _ _ _ i wr => ∃ k : Nat, k ≤ sh.length ∧ i = .int .i64 k ∧ tt = .int .i64 (tAt sh fr k) ∧ Ext w wr ∧ wr.ownsRow w.heap.size 3 1 v (min (k + 1) pl.length) ((wts pl sh fr (min (k + 1) pl.length)).map (.int .i64)) ∧
            (-30 ≤ tAt sh fr k ∧ tAt sh fr k ≤ 30) ∧ (-(3600 * (k : Int)) ≤ wAt pl sh fr k ∧ wAt pl sh fr k ≤ 3600 * (k : Int)) ∧ Hid (∀ j, j < k → okShare sh fr j = true)) (fun _ _ _ _ _ _ i _ => sh.length - (intOf i).toNat)
        case atStart =>
          refine ⟨0, by omega, rfl, by rw [tAt_zero], hEa.trans' (ext_alloc _ _), ?_, by rw [tAt_zero]; omega, by simp [wAt], fun j hj => by omega⟩
          have : min (0 + 1) pl.length = 1 := by omega
          rw [this]
          exact row_base (own_new1 w2 0) hEa.size
        case round =>
          obtain ⟨k, hk, rfl, rfl, hE, hrow, ht, hwk, H⟩ := hrel
          by_cases hlt : k < sh.length
          · obtain ⟨b2, o2, rfl, hb2, hc2⟩ := hs.ext hE k hlt
            rw [List.getElem?_eq_getElem hlt, Option.getD_some] at hc2
            by_cases hsh : okShare sh fr k = true
            · have hsb : (1 ≤ sh[k] ∧ sh[k] ≤ 60) ∧ tAt sh fr k + sh[k] ≤ 30 := by
                simp only [okShare, withinB, Bool.and_eq_true, decide_eq_true_eq, tAt_succ sh fr hlt, List.getElem?_eq_getElem hlt, Option.getD_some] at hsh
                exact hsh
              obtain ⟨⟨hsb1, hsb2⟩, hsb3⟩ := hsb
              have d1 : decide (sh[k] < 1) = false := by simp; omega
              have d2 : decide (60 < sh[k]) = false := by simp; omega
              have d3 : decide (30 < tAt sh fr k + sh[k]) = false := by simp; omega
              by_cases hl1 : k + 1 < pl.length
              · obtain ⟨b1, o1, rfl, hb1, hc1⟩ := hp.ext hE k (by omega)
                obtain ⟨b3, o3, he3, hb3, hc3⟩ := hp.ext hE (k + 1) hl1
                simp only [Option.some.injEq, Addr.mk.injEq] at he3
                obtain ⟨rfl, rfl, -⟩ := he3
                have hk1 : k < pl.length := by omega
                rw [List.getElem?_eq_getElem hk1, Option.getD_some] at hc1
                rw [List.getElem?_eq_getElem hl1, Option.getD_some] at hc3
                have hpA := allIn_at (okLine_spec Hok.out).2.1 hk1
                have hpB := allIn_at (okLine_spec Hok.out).2.1 hl1
                have hmin : min (k + 1) pl.length = k + 1 := by omega
                rw [hmin] at hrow
                clear hmin
                obtain ⟨g, cap, rfl⟩ := ownsRow_succ hrow
                have hcg := row_cell hrow (j := k) (u := .int .i64 (wAt pl sh fr k)) (by simp [wts])
                have q1 := sq_le (tAt sh fr k + sh[k] - pl[k + 1]) 60 (by omega) (by omega)
                have q2 := sq_le (tAt sh fr k + sh[k] - pl[k]) 60 (by omega) (by omega)
                have hl1' : (k : Int) + 1 < (pl.length : Int) := by omega
                have hgl : g < wr.heap.size := by
                  rcases Nat.lt_or_ge g wr.heap.size with h | h
                  · exact h
                  · simp [World.cell?, Array.getElem?_eq_none h] at hcg
                go_wp2_with fail
                refine wp_region_ext (by kernel_rfl) (by kernel_rfl) ?_
                repeat (go_big_quiet_step (fail))
                refine wpQuiet_nil ?_
                intro w3 hE3
                have hrow3 := row_ext hrow hE3
                have hcg3 := (hE3.cell' hgl).trans hcg
                have hsz3 := (hE.trans' hE3).size
                go_wp2_with (at_builtin; refine wpList_append_own _ rfl _ _ 26 rfl w.heap.size 3 i0 (.int .i64 0) 1 8 Try.underlying26 hi hz0 hz1 hz2 rfl (by decide) (.slice (some ⟨g, 0, none⟩) (k + 1) cap) (k + 1) _ rfl (hrow3.alloc _) ⟨w3.heap.size, 0, none⟩ 1 1 [.int .i64 _] rfl rfl (cell_one_new _ _ _) (by simp [Value.oneCell']) (by unfold maxLen; omega) (by omega) (by simp; omega) ?_; intro v' w4 hown' hgrow _)
                have hw5 := wAt_succ pl sh fr k (tAt_succ sh fr hlt) (by rw [List.getElem?_eq_getElem hk1, Option.getD_some]) (by rw [List.getElem?_eq_getElem hl1, Option.getD_some])
                have Hw5 := Lib.hid hw5
                clear hw5
                go_roundw
                case rel =>
                  refine ⟨k + 1, by omega, by go_num, by rw [tAt_succ sh fr hlt], ext_append (hE.trans' hE3) hrow3 (Nat.le_refl _) hgrow, ?_, by rw [tAt_succ sh fr hlt]; omega, by rw [Hw5.out]; omega, fun j hj => ?_⟩
                  · have hmin : min (k + 1 + 1) pl.length = k + 1 + 1 := by omega
                    rw [hmin, wts_succ, List.map_append, Hw5.out]
                    exact hown'
                  · by_cases e : j = k
                    · subst e; exact hsh
                    · exact H.out j (by omega)
                case measure => simp [intOf]; omega
              · have hl1' : ¬ (k : Int) + 1 < (pl.length : Int) := by omega
                go_wp2_with fail
                go_roundw
                case rel =>
                  have e1 : min (k + 1) pl.length = min (k + 1 + 1) pl.length := by have := HlenE.out; omega
                  have hbd : -(3600 * ((k + 1 : Nat) : Int)) ≤ wAt pl sh fr (k + 1) ∧ wAt pl sh fr (k + 1) ≤ 3600 * ((k + 1 : Nat) : Int) := by
                    have hk1 : k < pl.length := by have := HlenE.out; omega
                    have hpA := allIn_at (okLine_spec Hok.out).2.1 hk1
                    rw [wAt_succ pl sh fr k (q := 0) (tAt_succ sh fr hlt) (by rw [List.getElem?_eq_getElem hk1, Option.getD_some]) (by rw [List.getElem?_eq_none (by omega), Option.getD_none])]
                    have q1 := sq_le (tAt sh fr k + sh[k] - 0) 60 (by omega) (by omega)
                    have q2 := sq_le (tAt sh fr k + sh[k] - pl[k]) 60 (by omega) (by omega)
                    generalize (tAt sh fr k + sh[k] - 0) * (tAt sh fr k + sh[k] - 0) = u1 at *
                    generalize (tAt sh fr k + sh[k] - pl[k]) * (tAt sh fr k + sh[k] - pl[k]) = u2 at *
                    omega
                  refine ⟨k + 1, by omega, by go_num, by rw [tAt_succ sh fr hlt], hE, by rw [← e1]; exact hrow, by rw [tAt_succ sh fr hlt]; omega, hbd, fun j hj => ?_⟩
                  by_cases e : j = k
                  · subst e; exact hsh
                  · exact H.out j (by omega)
                case measure => simp [intOf]; omega
            · have hsh' : okShare sh fr k = false := by simpa using hsh
              have hfin := okW_no_share hlt hsh' (pl := pl)
              have Hfin := Lib.hid hfin
              have hsb : ¬ ((1 ≤ sh[k] ∧ sh[k] ≤ 60) ∧ tAt sh fr k + sh[k] ≤ 30) := by
                simp only [okShare, withinB, Bool.and_eq_true, decide_eq_true_eq, tAt_succ sh fr hlt, List.getElem?_eq_getElem hlt, Option.getD_some] at hsh
                exact hsh
              have Hsb := Lib.hid hsb
              clear hsh hsh' hfin hsb
              by_cases e1 : sh[k] < 1
              · have d1 : decide (sh[k] < 1) = true := by simp; omega
                go_wp2_with fail
                go_ret2
                exact retErr Hfin.out hE
              · have d1 : decide (sh[k] < 1) = false := by simp; omega
                by_cases e2 : 60 < sh[k]
                · have d2 : decide (60 < sh[k]) = true := by simp; omega
                  go_wp2_with fail
                  go_ret2
                  exact retErr Hfin.out hE
                · have d2 : decide (60 < sh[k]) = false := by simp; omega
                  have d3 : decide (30 < tAt sh fr k + sh[k]) = true := by
                    have := Hsb.out
                    simp; omega
                  go_wp2_with fail
                  go_ret2
                  exact retErr Hfin.out hE
          · obtain rfl : k = sh.length := by omega
            have hfin := okW_yes Hok.out HlenE.out Hfr.out H.out
            have Hfin := Lib.hid hfin
            clear hfin
            have hmin : min (sh.length + 1) pl.length = pl.length := by have := HlenE.out; omega
            rw [hmin] at hrow
            clear hmin
            obtain ⟨ad, cp, hv, hI⟩ := ints_of_row hrow
            have Hv := Lib.hid hv
            clear hv
            go_wp2_with fail
            go_ret2
            refine ⟨ad, cp, ?_, ?_, hE⟩
            · rw [Hv.out, weightsL, Hfin.out]; rfl
            · rw [weightsL, Hfin.out]; exact hI
      · have hfr' : withinB fr (-30) 30 = false := by simpa using hfr
        have hfin : okW pl sh fr = false := okW_no fun h => hfr h.2.2
        have Hfin := Lib.hid hfin
        have Hfr := Lib.hid hfr'
        rw [hok] at Hc
        clear hfr hfr' hfin hok hlenE
        go_enter Try.func46, Try.ntmps46
        go_wp2_with fail
        refine Hc.out.mono ?_
        rintro e w1 ⟨rfl, hE1⟩
        clear Hc
        have hA : allIn 30 [fr] = false := by rw [allIn1]; exact Hfr.out
        unfold errOf
        go_wp2_with fail
        refine (f57_c 30 _ 1 1 [fr] _ (ints_new1 _ _ _ _ (by simp)) (by rfl) (by omega) (by omega) (by omega)).mono ?_
        rintro e w2 ⟨rfl, hE2⟩
        have hEa : Ext w w2 := hE1.trans' ((ext_alloc _ _).trans' hE2)
        go_wp2_with fail
        go_ret2
        exact retErr Hfin.out hEa
    · have hne : ((sh.length : Int) != (pl.length : Int)) = true := by simp; omega
      have hfin : okW pl sh fr = false := okW_no fun h => hlenE h.2.1
      have Hfin := Lib.hid hfin
      rw [hok] at Hc
      clear hlenE hfin hok
      go_enter Try.func46, Try.ntmps46
      go_wp2_with fail
      refine Hc.out.mono ?_
      rintro e w1 ⟨rfl, hE1⟩
      clear Hc
      unfold errOf
      go_wp2_with fail
      go_ret2
      exact retErr Hfin.out hE1
  · have hok' : okLine pl = false := by simpa using hok
    have hfin : okW pl sh fr = false := okW_no fun h => hok h.1
    have Hfin := Lib.hid hfin
    rw [hok'] at Hc
    clear hok hok' hfin
    go_enter Try.func46, Try.ntmps46
    go_wp2_with fail
    refine Hc.out.mono ?_
    rintro e w1 ⟨rfl, hE1⟩
    clear Hc
    unfold errOf
    go_wp2_with fail
    go_ret2
    exact retErr Hfin.out hE1
end Go.Proofs.Ytodlbgncdggimaa
