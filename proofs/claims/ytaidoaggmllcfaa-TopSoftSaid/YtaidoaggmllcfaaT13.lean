/- Contracts of layer 6: tables of fractions; the places of a cross ratio. -/
import Derived.Test.YtaidoaggmllcfaaT12
namespace Go.Proofs.Ytaidoaggmllcfaa
open Go.RowKit
attribute [local go_sem] GW.cell

def rrow (t : List (List Rat)) (i : Nat) : List Rat := t[i]?.getD []
theorem rrow_at {t : List (List Rat)} {i : Nat} (h : i < t.length) : rrow t i = t[i] := by simp [rrow, h]
def fRow (m : Nat) (l : List Rat) : Bool := decide (l.length = m) && l.all validR
def fRows (m : Nat) (t : List (List Rat)) : Bool := t.all (fRow m)
def fracB (t : List (List Rat)) : Bool := decide (1 ≤ t.length) && (decide (t.length ≤ 5) && (decide (1 ≤ (rrow t 0).length) && (decide ((rrow t 0).length ≤ 5) && fRows (rrow t 0).length t)))
theorem fRows_no {m : Nat} {t : List (List Rat)} {k : Nat} (hk : k < t.length) (h : fRow m t[k] = false) : fRows m t = false := by
  unfold fRows; rw [List.all_eq_false]; exact ⟨t[k], List.getElem_mem hk, by simp [h]⟩
theorem fRows_yes {m : Nat} {t : List (List Rat)} (h : ∀ j, (hj : j < t.length) → fRow m t[j] = true) : fRows m t = true := by
  unfold fRows; rw [List.all_eq_true]
  intro x hx
  obtain ⟨j, hj, rfl⟩ := List.getElem_of_mem hx
  exact h j hj
theorem fRow_len {m : Nat} {l : List Rat} (h : l.length ≠ m) : fRow m l = false := by simp [fRow, h]
theorem fRow_no {m : Nat} {l : List Rat} {k : Nat} (hk : k < l.length) (h : validR l[k] = false) : fRow m l = false := by
  unfold fRow
  have : l.all validR = false := by rw [List.all_eq_false]; exact ⟨l[k], List.getElem_mem hk, by simp [h]⟩
  rw [this]; simp
theorem fRow_yes {m : Nat} {l : List Rat} (hm : l.length = m) (h : ∀ j, (hj : j < l.length) → validR l[j] = true) : fRow m l = true := by
  have : l.all validR = true := by
    rw [List.all_eq_true]
    intro x hx
    obtain ⟨j, hj, rfl⟩ := List.getElem_of_mem hx
    exact h j hj
  simp [fRow, hm, this]
theorem fracB_lo {t : List (List Rat)} (h : ¬ (1 ≤ t.length ∧ t.length ≤ 5)) : fracB t = false := by
  cases hb : fracB t
  · rfl
  · simp only [fracB, Bool.and_eq_true, decide_eq_true_eq] at hb; exact absurd ⟨hb.1, hb.2.1⟩ h
theorem fracB_lo2 {t : List (List Rat)} (h : ¬ (1 ≤ (rrow t 0).length ∧ (rrow t 0).length ≤ 5)) : fracB t = false := by
  cases hb : fracB t
  · rfl
  · simp only [fracB, Bool.and_eq_true, decide_eq_true_eq] at hb; exact absurd ⟨hb.2.2.1, hb.2.2.2.1⟩ h
theorem fracB_in {t : List (List Rat)} (h : 1 ≤ t.length ∧ t.length ≤ 5) (h2 : 1 ≤ (rrow t 0).length ∧ (rrow t 0).length ≤ 5) : fracB t = fRows (rrow t 0).length t := by
  simp [fracB, h, h2]
theorem fracB_at {t : List (List Rat)} (h : fracB t = true) : (1 ≤ t.length ∧ t.length ≤ 5) ∧ (1 ≤ (rrow t 0).length ∧ (rrow t 0).length ≤ 5) ∧ ∀ i, (hi : i < t.length) → t[i].length = (rrow t 0).length ∧ ∀ j, (hj : j < t[i].length) → validR t[i][j] = true := by
  simp only [fracB, Bool.and_eq_true, decide_eq_true_eq] at h
  refine ⟨⟨h.1, h.2.1⟩, ⟨h.2.2.1, h.2.2.2.1⟩, fun i hi => ?_⟩
  have h5 := h.2.2.2.2
  unfold fRows at h5
  rw [List.all_eq_true] at h5
  have h6 := h5 t[i] (List.getElem_mem hi)
  simp only [fRow, Bool.and_eq_true, decide_eq_true_eq, List.all_eq_true] at h6
  exact ⟨h6.1, fun j hj => h6.2 _ (List.getElem_mem hj)⟩

set_option maxRecDepth 20000 in
set_option maxHeartbeats 4000000 in
theorem f74_c (a : Option Addr) (n c : Nat) (t : List (List Rat)) (w : World) (hl : RatT w a t) (hn : t.length = n) (hlen : n ≤ 1000000) (hin : ∀ j, (hj : j < t.length) → t[j].length ≤ 1000000) :
    Calls Try.prog 74 #[.slice a n c] w fun e w' => e = .returned (.bool (fracB t)) ∧ Ext w w' := by
  subst hn
  by_cases h1 : 1 ≤ t.length ∧ t.length ≤ 5
  case neg =>
    have d1 : withinB (t.length : Int) 1 5 = false := by rw [within15]; simp; omega
    rw [fracB_lo h1]
    clear h1
    go_enter Try.func74, Try.ntmps74
    go_wp2_with (go_at_call 62; refine (f62_c _ _ _ _).mono ?_; rintro e w' ⟨rfl, rfl⟩)
    go_ret
    exact ⟨rfl, Below.refl _ _⟩
  have d1 : withinB (t.length : Int) 1 5 = true := by rw [within15]; simp; omega
  have h0 : 0 < t.length := by omega
  obtain ⟨b0, o0, a0, c0, rfl, hb0, hc0, hI0⟩ := hl 0 h0
  have hr0 : rrow t 0 = t[0] := rrow_at h0
  rw [← hr0] at hc0
  simp only [Nat.add_zero] at hc0
  by_cases h2 : 1 ≤ (rrow t 0).length ∧ (rrow t 0).length ≤ 5
  case neg =>
    have d2 : withinB ((rrow t 0).length : Int) 1 5 = false := by rw [within15]; simp; omega
    rw [fracB_lo2 h2]
    clear h2 hr0 hI0
    go_enter Try.func74, Try.ntmps74
    go_wp2_with (go_at_call 62; refine (f62_c _ _ _ _).mono ?_; rintro e w' ⟨rfl, rfl⟩)
    go_ret
    exact ⟨rfl, Below.refl _ _⟩
  have d2 : withinB ((rrow t 0).length : Int) 1 5 = true := by rw [within15]; simp; omega
  rw [fracB_in h1 h2]
  have Hin := Lib.hid hin
  have h5 := h2.2
  clear h1 h2 hr0 hI0 hin
  generalize (rrow t 0).length = m at *
  go_enter Try.func74, Try.ntmps74
  go_wp2_with (go_at_call 62; refine (f62_c _ _ _ _).mono ?_; rintro e w' ⟨rfl, rfl⟩)
  clear d1 d2
  go_loopw [4, 6, 21] (fun _ _ i wr => ∃ k : Nat, k ≤ t.length ∧ i = .int .i64 k ∧ Ext w wr ∧ Hid (∀ j, j < k → (hj : j < t.length) → fRow m t[j] = true)) (fun _ _ i _ => t.length - (intOf i).toNat)
  case atStart => exact ⟨0, Nat.zero_le _, rfl, Below.refl _ _, fun j hj => by omega⟩
  case round =>
    obtain ⟨k, hk, rfl, hE, H⟩ := hrel
    by_cases hlt : k < t.length
    · obtain ⟨b1, o1, a1, c1, e1, hb1, hc1, hI1⟩ := hl.ext hE k hlt
      simp only [Option.some.injEq, Addr.mk.injEq, and_true] at e1
      obtain ⟨rfl, rfl⟩ := e1
      have hc0' := (hE.cell' hb0).trans hc0
      have hil := Hin.out k hlt
      by_cases h3 : t[k].length = m
      · have d3 : ((t[k].length : Int) != (m : Int)) = false := by simp; omega
        have H3 := Lib.hid h3
        clear h3
        obtain ⟨wo, rfl⟩ : ∃ wo : World, wo = wr := ⟨_, rfl⟩
        go_wp2_with fail
        go_loopw [6, 34] (fun _ i wr => ∃ q : Nat, q ≤ t[k].length ∧ i = .int .i64 q ∧ Ext wo wr ∧ Hid (∀ j, j < q → (hj : j < t[k].length) → validR t[k][j] = true)) (fun _ i _ => t[k].length - (intOf i).toNat)
        case atStart => exact ⟨0, Nat.zero_le _, rfl, Below.refl _ _, fun j hj => by omega⟩
        case round =>
          obtain ⟨q, hq, rfl, hE3, Hq⟩ := hrel
          have hc3 := (hE3.cell' hb1).trans hc1
          by_cases hlq : q < t[k].length
          · obtain ⟨b2, o2, rfl, hb2, hx4, hy4⟩ := hI1.ext hE3 q hlq
            cases h4 : validR t[k][q]
            · have H4 := Lib.hid (fRows_no (m := m) hlt (fRow_no hlq h4))
              have C3 := Lib.hid (fun W => f88_c t[k][q] W)
              rw [h4] at C3
              clear h4
              generalize t[k][q] = r at *
              go_wp2_with fail
              refine (C3.out _).mono ?_
              rintro e w5 ⟨rfl, hE5⟩
              go_wp2_with fail
              go_ret
              exact ⟨ret_bool H4.out.symm, hE.trans' (hE3.trans' (Ext.trans' (ext_alloc _ _) hE5))⟩
            · have H4 := Lib.hid h4
              have C3 := Lib.hid (fun W => f88_c t[k][q] W)
              rw [h4] at C3
              clear h4
              have Hn : Hid (∀ j, j < q + 1 → (hj : j < t[k].length) → validR t[k][j] = true) := Lib.hid (fun j hj hj2 => by
                by_cases e : j = q
                · subst e; exact H4.out
                · exact Hq.out j (by omega) hj2)
              clear H4 Hq
              generalize t[k][q] = r at *
              go_wp2_with fail
              refine (C3.out _).mono ?_
              rintro e w5 ⟨rfl, hE5⟩
              go_wp2_with fail
              go_roundw
              case rel => exact ⟨q + 1, by omega, by go_num, hE3.trans' (Ext.trans' (ext_alloc _ _) hE5), Hn⟩
              case measure => simp [intOf]; omega
          · have hge : ¬ (q : Int) < (t[k].length : Int) := by omega
            have Hq2 := Lib.hid (fRow_yes (m := m) H3.out (fun j hj => Hq.out j (by omega) hj))
            go_wp2_with fail
            go_roundw
            case rel =>
              refine ⟨k + 1, by omega, by go_num, hE.trans' hE3, fun j hj hj2 => ?_⟩
              by_cases e : j = k
              · subst e; exact Hq2.out
              · exact H.out j (by omega) hj2
            case measure => simp [intOf]; omega
      · have d3 : ((t[k].length : Int) != (m : Int)) = true := by simp; omega
        have Hg := Lib.hid (fRows_no hlt (fRow_len h3))
        clear h3
        go_wp2_with fail
        go_ret
        exact ⟨ret_bool Hg.out.symm, hE⟩
    · obtain rfl : k = t.length := by omega
      go_wp2_with fail
      go_ret
      exact ⟨ret_bool (fRows_yes fun j hj => H.out j hj hj).symm, hE⟩

set_option maxRecDepth 20000 in
set_option maxHeartbeats 4000000 in
theorem f77_c (a : Option Addr) (n c : Nat) (t : List (List Rat)) (w : World) (hl : RatT w a t) (hn : t.length = n) (hlen : n ≤ 1000000) (hin : ∀ j, (hj : j < t.length) → t[j].length ≤ 1000000) :
    Calls Try.prog 77 #[.slice a n c] w fun e w' => e = .returned (.bool (fracB t)) ∧ Ext w w' := by
  subst hn
  by_cases h1 : 1 ≤ t.length ∧ t.length ≤ 5
  case neg =>
    have d1 : withinB (t.length : Int) 1 5 = false := by rw [within15]; simp; omega
    rw [fracB_lo h1]
    clear h1
    go_enter Try.func77, Try.ntmps77
    go_wp2_with (go_at_call 60; refine (f60_c _ _ _ _).mono ?_; rintro e w' ⟨rfl, rfl⟩)
    go_ret
    exact ⟨rfl, Below.refl _ _⟩
  have d1 : withinB (t.length : Int) 1 5 = true := by rw [within15]; simp; omega
  have h0 : 0 < t.length := by omega
  obtain ⟨b0, o0, a0, c0, rfl, hb0, hc0, hI0⟩ := hl 0 h0
  have hr0 : rrow t 0 = t[0] := rrow_at h0
  rw [← hr0] at hc0
  simp only [Nat.add_zero] at hc0
  by_cases h2 : 1 ≤ (rrow t 0).length ∧ (rrow t 0).length ≤ 5
  case neg =>
    have d2 : withinB ((rrow t 0).length : Int) 1 5 = false := by rw [within15]; simp; omega
    rw [fracB_lo2 h2]
    clear h2 hr0 hI0
    go_enter Try.func77, Try.ntmps77
    go_wp2_with (go_at_call 60; refine (f60_c _ _ _ _).mono ?_; rintro e w' ⟨rfl, rfl⟩)
    go_ret
    exact ⟨rfl, Below.refl _ _⟩
  have d2 : withinB ((rrow t 0).length : Int) 1 5 = true := by rw [within15]; simp; omega
  rw [fracB_in h1 h2]
  have Hin := Lib.hid hin
  have h5 := h2.2
  clear h1 h2 hr0 hI0 hin
  generalize (rrow t 0).length = m at *
  go_enter Try.func77, Try.ntmps77
  go_wp2_with (go_at_call 60; refine (f60_c _ _ _ _).mono ?_; rintro e w' ⟨rfl, rfl⟩)
  clear d1 d2
  go_loopw [3, 4] (fun i _ wr => ∃ k : Nat, k ≤ t.length ∧ i = .int .i64 k ∧ Ext w wr ∧ Hid (∀ j, j < k → (hj : j < t.length) → fRow m t[j] = true)) (fun i _ _ => t.length - (intOf i).toNat)
  case atStart => exact ⟨0, Nat.zero_le _, rfl, Below.refl _ _, fun j hj => by omega⟩
  case round =>
    obtain ⟨k, hk, rfl, hE, H⟩ := hrel
    by_cases hlt : k < t.length
    · obtain ⟨b1, o1, a1, c1, e1, hb1, hc1, hI1⟩ := hl.ext hE k hlt
      simp only [Option.some.injEq, Addr.mk.injEq, and_true] at e1
      obtain ⟨rfl, rfl⟩ := e1
      have hc0' := (hE.cell' hb0).trans hc0
      have hil := Hin.out k hlt
      by_cases h3 : t[k].length = m
      · have d3 : ((t[k].length : Int) != (m : Int)) = false := by simp; omega
        have H3 := Lib.hid h3
        clear h3
        obtain ⟨wo, rfl⟩ : ∃ wo : World, wo = wr := ⟨_, rfl⟩
        go_wp2_with fail
        refine wp_region_ext (by kernel_rfl) (by kernel_rfl) ?_
        repeat (go_big_quiet_step (fail))
        refine wpQuiet_nil ?_
        intro w1 hE1
        have hE2 := hE.trans' hE1
        have hc2 := (hE1.cell' hb1).trans hc1
        have hI2 := hI1.ext hE1
        clear hc1 hI1
        go_wp2_with fail
        go_loopw [4] (fun i wr => ∃ q : Nat, q ≤ t[k].length ∧ i = .int .i64 q ∧ Ext w1 wr ∧ Hid (∀ j, j < q → (hj : j < t[k].length) → validR t[k][j] = true)) (fun i _ => t[k].length - (intOf i).toNat)
        case atStart => exact ⟨0, Nat.zero_le _, rfl, Below.refl _ _, fun j hj => by omega⟩
        case round =>
          obtain ⟨q, hq, rfl, hE3, Hq⟩ := hrel
          have hc3 := (hE3.cell' (Nat.lt_of_lt_of_le hb1 hE1.size)).trans hc2
          by_cases hlq : q < t[k].length
          · obtain ⟨b2, o2, rfl, hb2, hx4, hy4⟩ := hI2.ext hE3 q hlq
            cases h4 : validR t[k][q]
            · have H4 := Lib.hid (fRows_no (m := m) hlt (fRow_no hlq h4))
              have C1 := Lib.hid (fun W => f60_c t[k][q].num 0 30000 W)
              have C2 := fun W (h : 0 ≤ t[k][q].num ∧ t[k][q].num ≤ 30000) => f109_c t[k][q].num t[k][q].den W h
              cases g1 : withinB t[k][q].num 0 30000
              · rw [g1] at C1
                clear h4 g1 C2
                generalize t[k][q] = r at *
                go_wp2_with fail
                refine (C1.out _).mono ?_
                rintro e w' ⟨rfl, rfl⟩
                go_wp2_with fail
                go_ret
                exact ⟨ret_bool H4.out.symm, hE2.trans' hE3⟩
              · rw [g1] at C1
                have g2 : (withinB t[k][q].den 1 30000 && (gcdI t[k][q].num t[k][q].den == 1)) = false := by unfold validR at h4; rw [g1] at h4; simpa using h4
                rw [g2] at C2
                have C2 := Lib.hid (fun W => C2 W (withinB_iff.1 g1))
                clear h4 g1 g2
                generalize t[k][q] = r at *
                go_wp2_with fail
                refine (C1.out _).mono ?_
                rintro e w' ⟨rfl, rfl⟩
                go_wp2_with fail
                refine (C2.out _).mono ?_
                rintro e w5 ⟨rfl, hE5⟩
                go_wp2_with fail
                go_ret
                exact ⟨ret_bool H4.out.symm, hE2.trans' (hE3.trans' hE5)⟩
            · have H4 := Lib.hid h4
              have C1 := Lib.hid (fun W => f60_c t[k][q].num 0 30000 W)
              have g1 : withinB t[k][q].num 0 30000 = true := by unfold validR at h4; simp only [Bool.and_eq_true] at h4; exact h4.2.1
              have g2 : (withinB t[k][q].den 1 30000 && (gcdI t[k][q].num t[k][q].den == 1)) = true := by unfold validR at h4; rw [g1] at h4; simpa using h4
              have C2 := Lib.hid (fun W => f109_c t[k][q].num t[k][q].den W (withinB_iff.1 g1))
              rw [g1] at C1
              rw [g2] at C2
              clear h4 g1 g2
              have Hn : Hid (∀ j, j < q + 1 → (hj : j < t[k].length) → validR t[k][j] = true) := Lib.hid (fun j hj hj2 => by
                by_cases e : j = q
                · subst e; exact H4.out
                · exact Hq.out j (by omega) hj2)
              clear H4 Hq
              generalize t[k][q] = r at *
              go_wp2_with fail
              refine (C1.out _).mono ?_
              rintro e w' ⟨rfl, rfl⟩
              go_wp2_with fail
              refine (C2.out _).mono ?_
              rintro e w5 ⟨rfl, hE5⟩
              go_wp2_with fail
              go_roundw
              case rel => exact ⟨q + 1, by omega, by go_num, hE3.trans' hE5, Hn⟩
              case measure => simp [intOf]; omega
          · have hge : ¬ (q : Int) < (t[k].length : Int) := by omega
            have Hq2 := Lib.hid (fRow_yes (m := m) H3.out (fun j hj => Hq.out j (by omega) hj))
            go_wp2_with fail
            go_roundw
            case rel =>
              refine ⟨k + 1, by omega, by go_num, hE2.trans' hE3, fun j hj hj2 => ?_⟩
              by_cases e : j = k
              · subst e; exact Hq2.out
              · exact H.out j (by omega) hj2
            case measure => simp [intOf]; omega
      · have d3 : ((t[k].length : Int) != (m : Int)) = true := by simp; omega
        have Hg := Lib.hid (fRows_no hlt (fRow_len h3))
        clear h3
        go_wp2_with fail
        refine wp_region_ext (by kernel_rfl) (by kernel_rfl) ?_
        repeat (go_big_quiet_step (fail))
        refine wpQuiet_nil ?_
        intro w1 hE1
        go_wp2_with fail
        go_ret
        exact ⟨ret_bool Hg.out.symm, hE.trans' hE1⟩
    · obtain rfl : k = t.length := by omega
      go_wp2_with fail
      go_ret
      exact ⟨ret_bool (fRows_yes fun j hj => H.out j hj hj).symm, hE⟩

def placedB (r c i j m n : Int) : Bool := withinB i 0 (r - 1) && (withinB m 0 (r - 1) && (withinB j 0 (c - 1) && withinB n 0 (c - 1)))
set_option maxHeartbeats 4000000 in
theorem f75_c (r c i j m n : Int) (w : World) (hr : 0 ≤ r ∧ r ≤ 1000000) (hc : 0 ≤ c ∧ c ≤ 1000000) :
    Calls Try.prog 75 #[.agg #[.int .i64 i, .int .i64 j, .int .i64 m, .int .i64 n], .int .i64 r, .int .i64 c] w fun e w' => e = .returned (.int .i64 (if placedB r c i j m n then 0 else 4)) ∧ Ext w w' := by
  have C1 := fun W => f62_c i 0 (r - 1) W
  have C2 := fun W => f62_c m 0 (r - 1) W
  have C3 := fun W => f62_c j 0 (c - 1) W
  have C4 := fun W => f62_c n 0 (c - 1) W
  have HB := Lib.hid (BlkC.new w #[.int .i64 i, .int .i64 j, .int .i64 m, .int .i64 n] 93)
  have hE0 := ext_alloc w (.cells #[.int .i64 i, .int .i64 j, .int .i64 m, .int .i64 n] 93)
  have hc0 := HB.out.cellv 0 (v := .int .i64 i) rfl
  have hc1 := HB.out.cellv 1 (v := .int .i64 j) rfl
  have hc2 := HB.out.cellv 2 (v := .int .i64 m) rfl
  have hc3 := HB.out.cellv 3 (v := .int .i64 n) rfl
  cases g1 : withinB i 0 (r - 1)
  · rw [show placedB r c i j m n = false by unfold placedB; rw [g1]; rfl]
    rw [g1] at C1
    have C1 := Lib.hid C1
    clear g1
    try rw [if_pos rfl]
    try rw [if_neg (by decide)]
    go_enter Try.func75, Try.ntmps75
    go_wp2_with fail
    generalize w.alloc (.cells #[.int .i64 i, .int .i64 j, .int .i64 m, .int .i64 n] 93) = w0 at *
    go_wp2_with fail
    refine (C1.out _).mono ?_
    rintro e w' ⟨rfl, rfl⟩
    go_wp2_with fail
    go_ret
    exact ⟨rfl, hE0⟩
  cases g2 : withinB m 0 (r - 1)
  · rw [show placedB r c i j m n = false by unfold placedB; rw [g1, g2]; rfl]
    rw [g1] at C1
    have C1 := Lib.hid C1
    rw [g2] at C2
    have C2 := Lib.hid C2
    clear g1 g2
    try rw [if_pos rfl]
    try rw [if_neg (by decide)]
    go_enter Try.func75, Try.ntmps75
    go_wp2_with fail
    generalize w.alloc (.cells #[.int .i64 i, .int .i64 j, .int .i64 m, .int .i64 n] 93) = w0 at *
    go_wp2_with fail
    refine (C1.out _).mono ?_
    rintro e w' ⟨rfl, rfl⟩
    go_wp2_with fail
    refine (C2.out _).mono ?_
    rintro e w' ⟨rfl, rfl⟩
    go_wp2_with fail
    go_ret
    exact ⟨rfl, hE0⟩
  cases g3 : withinB j 0 (c - 1)
  · rw [show placedB r c i j m n = false by unfold placedB; rw [g1, g2, g3]; rfl]
    rw [g1] at C1
    have C1 := Lib.hid C1
    rw [g2] at C2
    have C2 := Lib.hid C2
    rw [g3] at C3
    have C3 := Lib.hid C3
    clear g1 g2 g3
    try rw [if_pos rfl]
    try rw [if_neg (by decide)]
    go_enter Try.func75, Try.ntmps75
    go_wp2_with fail
    generalize w.alloc (.cells #[.int .i64 i, .int .i64 j, .int .i64 m, .int .i64 n] 93) = w0 at *
    go_wp2_with fail
    refine (C1.out _).mono ?_
    rintro e w' ⟨rfl, rfl⟩
    go_wp2_with fail
    refine (C2.out _).mono ?_
    rintro e w' ⟨rfl, rfl⟩
    go_wp2_with fail
    refine (C3.out _).mono ?_
    rintro e w' ⟨rfl, rfl⟩
    go_wp2_with fail
    go_ret
    exact ⟨rfl, hE0⟩
  cases g4 : withinB n 0 (c - 1)
  · rw [show placedB r c i j m n = false by unfold placedB; rw [g1, g2, g3, g4]; rfl]
    rw [g1] at C1
    have C1 := Lib.hid C1
    rw [g2] at C2
    have C2 := Lib.hid C2
    rw [g3] at C3
    have C3 := Lib.hid C3
    rw [g4] at C4
    have C4 := Lib.hid C4
    clear g1 g2 g3 g4
    try rw [if_pos rfl]
    try rw [if_neg (by decide)]
    go_enter Try.func75, Try.ntmps75
    go_wp2_with fail
    generalize w.alloc (.cells #[.int .i64 i, .int .i64 j, .int .i64 m, .int .i64 n] 93) = w0 at *
    go_wp2_with fail
    refine (C1.out _).mono ?_
    rintro e w' ⟨rfl, rfl⟩
    go_wp2_with fail
    refine (C2.out _).mono ?_
    rintro e w' ⟨rfl, rfl⟩
    go_wp2_with fail
    refine (C3.out _).mono ?_
    rintro e w' ⟨rfl, rfl⟩
    go_wp2_with fail
    refine (C4.out _).mono ?_
    rintro e w' ⟨rfl, rfl⟩
    go_wp2_with fail
    go_ret
    exact ⟨rfl, hE0⟩
  rw [show placedB r c i j m n = true by unfold placedB; rw [g1, g2, g3, g4]; rfl]
  rw [g1] at C1
  have C1 := Lib.hid C1
  rw [g2] at C2
  have C2 := Lib.hid C2
  rw [g3] at C3
  have C3 := Lib.hid C3
  rw [g4] at C4
  have C4 := Lib.hid C4
  clear g1 g2 g3 g4
  try rw [if_pos rfl]
  try rw [if_neg (by decide)]
  go_enter Try.func75, Try.ntmps75
  go_wp2_with fail
  generalize w.alloc (.cells #[.int .i64 i, .int .i64 j, .int .i64 m, .int .i64 n] 93) = w0 at *
  go_wp2_with fail
  refine (C1.out _).mono ?_
  rintro e w' ⟨rfl, rfl⟩
  go_wp2_with fail
  refine (C2.out _).mono ?_
  rintro e w' ⟨rfl, rfl⟩
  go_wp2_with fail
  refine (C3.out _).mono ?_
  rintro e w' ⟨rfl, rfl⟩
  go_wp2_with fail
  refine (C4.out _).mono ?_
  rintro e w' ⟨rfl, rfl⟩
  go_wp2_with fail
  go_ret
  exact ⟨rfl, hE0⟩
set_option maxHeartbeats 4000000 in
theorem f78_c (r c i j m n : Int) (w : World) (hr : 0 ≤ r ∧ r ≤ 1000000) (hc : 0 ≤ c ∧ c ≤ 1000000) :
    Calls Try.prog 78 #[.int .i64 r, .int .i64 c, .int .i64 i, .int .i64 j, .int .i64 m, .int .i64 n] w fun e w' => e = .returned (.bool (placedB r c i j m n)) ∧ Ext w w' := by
  have C1 := fun W => f60_c i 0 (r - 1) W
  have C2 := fun W => f60_c m 0 (r - 1) W
  have C3 := fun W => f60_c j 0 (c - 1) W
  have C4 := fun W => f60_c n 0 (c - 1) W
  cases g1 : withinB i 0 (r - 1)
  · rw [show placedB r c i j m n = false by unfold placedB; rw [g1]; rfl]
    rw [g1] at C1
    have C1 := Lib.hid C1
    clear g1
    go_enter Try.func78, Try.ntmps78
    go_wp2_with fail
    refine (C1.out _).mono ?_
    rintro e w' ⟨rfl, rfl⟩
    go_wp2_with fail
    go_ret
    exact ⟨rfl, Below.refl _ _⟩
  cases g2 : withinB m 0 (r - 1)
  · rw [show placedB r c i j m n = false by unfold placedB; rw [g1, g2]; rfl]
    rw [g1] at C1
    have C1 := Lib.hid C1
    rw [g2] at C2
    have C2 := Lib.hid C2
    clear g1 g2
    go_enter Try.func78, Try.ntmps78
    go_wp2_with fail
    refine (C1.out _).mono ?_
    rintro e w' ⟨rfl, rfl⟩
    go_wp2_with fail
    refine (C2.out _).mono ?_
    rintro e w' ⟨rfl, rfl⟩
    go_wp2_with fail
    go_ret
    exact ⟨rfl, Below.refl _ _⟩
  cases g3 : withinB j 0 (c - 1)
  · rw [show placedB r c i j m n = false by unfold placedB; rw [g1, g2, g3]; rfl]
    rw [g1] at C1
    have C1 := Lib.hid C1
    rw [g2] at C2
    have C2 := Lib.hid C2
    rw [g3] at C3
    have C3 := Lib.hid C3
    clear g1 g2 g3
    go_enter Try.func78, Try.ntmps78
    go_wp2_with fail
    refine (C1.out _).mono ?_
    rintro e w' ⟨rfl, rfl⟩
    go_wp2_with fail
    refine (C2.out _).mono ?_
    rintro e w' ⟨rfl, rfl⟩
    go_wp2_with fail
    refine (C3.out _).mono ?_
    rintro e w' ⟨rfl, rfl⟩
    go_wp2_with fail
    go_ret
    exact ⟨rfl, Below.refl _ _⟩
  cases g4 : withinB n 0 (c - 1)
  · rw [show placedB r c i j m n = false by unfold placedB; rw [g1, g2, g3, g4]; rfl]
    rw [g1] at C1
    have C1 := Lib.hid C1
    rw [g2] at C2
    have C2 := Lib.hid C2
    rw [g3] at C3
    have C3 := Lib.hid C3
    rw [g4] at C4
    have C4 := Lib.hid C4
    clear g1 g2 g3 g4
    go_enter Try.func78, Try.ntmps78
    go_wp2_with fail
    refine (C1.out _).mono ?_
    rintro e w' ⟨rfl, rfl⟩
    go_wp2_with fail
    refine (C2.out _).mono ?_
    rintro e w' ⟨rfl, rfl⟩
    go_wp2_with fail
    refine (C3.out _).mono ?_
    rintro e w' ⟨rfl, rfl⟩
    go_wp2_with fail
    refine (C4.out _).mono ?_
    rintro e w' ⟨rfl, rfl⟩
    go_wp2_with fail
    go_ret
    exact ⟨rfl, Below.refl _ _⟩
  rw [show placedB r c i j m n = true by unfold placedB; rw [g1, g2, g3, g4]; rfl]
  rw [g1] at C1
  have C1 := Lib.hid C1
  rw [g2] at C2
  have C2 := Lib.hid C2
  rw [g3] at C3
  have C3 := Lib.hid C3
  rw [g4] at C4
  have C4 := Lib.hid C4
  clear g1 g2 g3 g4
  go_enter Try.func78, Try.ntmps78
  go_wp2_with fail
  refine (C1.out _).mono ?_
  rintro e w' ⟨rfl, rfl⟩
  go_wp2_with fail
  refine (C2.out _).mono ?_
  rintro e w' ⟨rfl, rfl⟩
  go_wp2_with fail
  refine (C3.out _).mono ?_
  rintro e w' ⟨rfl, rfl⟩
  go_wp2_with fail
  refine (C4.out _).mono ?_
  rintro e w' ⟨rfl, rfl⟩
  go_wp2_with fail
  go_ret
  exact ⟨rfl, Below.refl _ _⟩
end Go.Proofs.Ytaidoaggmllcfaa
