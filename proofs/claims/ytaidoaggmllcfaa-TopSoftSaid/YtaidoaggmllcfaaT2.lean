/- Contracts of layer 6: the errors of masses and tables. -/
import Derived.Test.YtaidoaggmllcfaaT1
namespace Go.Proofs.Ytaidoaggmllcfaa
open Go.RowKit
attribute [local go_sem] GW.cell

/-- the first number that is not 0 -/
def orL : List Int → Int
  | [] => 0
  | x :: l => if x = 0 then orL l else x
def orTo (l : List Int) : Nat → Int
  | 0 => 0
  | k + 1 => if orTo l k = 0 then gi l k else orTo l k
theorem orTo_cons (x : Int) (l : List Int) : ∀ k, orTo (x :: l) (k + 1) = if x = 0 then orTo l k else x
  | 0 => by simp [orTo, gi]
  | k + 1 => by
    rw [show orTo (x :: l) (k + 1 + 1) = if orTo (x :: l) (k + 1) = 0 then gi (x :: l) (k + 1) else orTo (x :: l) (k + 1) from rfl, orTo_cons x l k]
    by_cases h : x = 0
    · simp [h, orTo, gi]
    · simp [h]
theorem orTo_all : ∀ (l : List Int), orTo l l.length = orL l
  | [] => rfl
  | x :: l => by rw [List.length_cons, orTo_cons, orTo_all l]; rfl
theorem orTo_hit {l : List Int} {k : Nat} : ∀ {n : Nat}, k < n → orTo l k = 0 → gi l k ≠ 0 → orTo l n = gi l k
  | 0, h, _, _ => by omega
  | n + 1, h, h0, h1 => by
    rcases Nat.lt_or_ge k n with h2 | h2
    · have := orTo_hit h2 h0 h1
      show (if orTo l n = 0 then gi l n else orTo l n) = _
      rw [this, if_neg h1]
    · obtain rfl : k = n := by omega
      show (if orTo l k = 0 then gi l k else orTo l k) = _
      rw [if_pos h0]
set_option maxHeartbeats 1000000 in
theorem f55_c (a : Option Addr) (n c : Nat) (l : List Int) (w : World) (hl : Ints w a l) (hn : l.length = n) (hlen : n ≤ 1000000) :
    Calls Try.prog 55 #[.slice a n c] w fun e w' => e = .returned (.int .i64 (orL l)) ∧ w = w' := by
  subst hn
  go_enter Try.func55, Try.ntmps55
  go_wp2_with fail
  go_loop [5, 8] (fun _ i => ∃ k : Nat, k ≤ l.length ∧ i = .int .i64 k ∧ Hid (orTo l k = 0)) (fun _ i => l.length - (intOf i).toNat)
  case atStart => exact ⟨0, Nat.zero_le _, rfl, rfl⟩
  case round =>
    obtain ⟨k, hk, rfl, H⟩ := hrel
    by_cases hlt : k < l.length
    · obtain ⟨b, off, rfl, hb, hcc⟩ := hl k hlt
      rw [← gi_at] at hcc
      by_cases h0 : gi l k = 0
      · have h1 : Hid (orTo l (k + 1) = 0) := Lib.hid (by
          show (if orTo l k = 0 then gi l k else orTo l k) = 0
          rw [if_pos H.out, h0])
        rw [h0] at hcc
        clear h0
        go_wp2_with fail
        go_round
        case rel => exact ⟨k + 1, by omega, by go_num, h1⟩
        case measure => simp [intOf]; omega
      · have h1 := Lib.hid ((orTo_hit hlt H.out h0).symm.trans (orTo_all l))
        have hd : (gi l k != 0) = true := by simp [h0]
        clear h0
        generalize gi l k = x at *
        go_wp2_with fail
        go_ret
        exact ⟨ret_int h1.out, rfl⟩
    · obtain rfl : k = l.length := by omega
      go_wp2_with fail
      go_ret
      exact ⟨ret_int (H.out.symm.trans (orTo_all l)), rfl⟩

/-! ### masses -/
def massB (l : List Int) : Bool := decide (1 ≤ l.length) && (decide (l.length ≤ 5) && okRow 0 30 l)
def valM (l : List Int) : Int := errOf (massB l)
theorem massB_ok {l : List Int} (h : massB l = true) : 1 ≤ l.length ∧ l.length ≤ 5 ∧ ∀ j, j < l.length → 0 ≤ gi l j ∧ gi l j ≤ 30 := by
  simp only [massB, Bool.and_eq_true, decide_eq_true_eq] at h
  exact ⟨h.1, h.2.1, fun j hj => okRow_at h.2.2 hj⟩
theorem errOf_zero {b : Bool} : errOf b = 0 ↔ b = true := by cases b <;> simp [errOf]
theorem valM_ok {l : List Int} (h : valM l = 0) : massB l = true := errOf_zero.1 h
theorem valM_lo {l : List Int} (h : ¬ 1 ≤ l.length) : valM l = 1 := by simp [valM, massB, h, errOf]
theorem valM_hi {l : List Int} (h : ¬ l.length ≤ 5) : valM l = 1 := by simp [valM, massB, h, errOf]
theorem valM_in {l : List Int} (h1 : 1 ≤ l.length) (h2 : l.length ≤ 5) : valM l = errOf (okRow 0 30 l) := by simp [valM, massB, h1, h2]
theorem within15 (n : Nat) : withinB (n : Int) 1 5 = (decide (1 ≤ n) && decide (n ≤ 5)) := by
  rw [Bool.eq_iff_iff]; simp [withinB]; omega
set_option maxHeartbeats 1000000 in
theorem f66_c (a : Option Addr) (n c : Nat) (l : List Int) (w : World) (hl : Ints w a l) (hn : l.length = n) (hlen : n ≤ 1000000) :
    Calls Try.prog 66 #[.slice a n c] w fun e w' => e = .returned (.int .i64 (valM l)) ∧ w = w' := by
  subst hn
  by_cases h1 : 1 ≤ l.length
  case neg =>
    have d1 : decide ((l.length : Int) < 1) = true := by simp; omega
    rw [valM_lo h1]
    clear h1
    go_enter Try.func66, Try.ntmps66
    go_wp2_with fail
    go_ret
    exact ⟨rfl, rfl⟩
  have d1 : decide ((l.length : Int) < 1) = false := by simp; omega
  by_cases h2 : l.length ≤ 5
  case neg =>
    have d2 : decide (5 < (l.length : Int)) = true := by simp; omega
    rw [valM_hi h2]
    clear h1 h2
    go_enter Try.func66, Try.ntmps66
    go_wp2_with fail
    go_ret
    exact ⟨rfl, rfl⟩
  have d2 : decide (5 < (l.length : Int)) = false := by simp; omega
  rw [valM_in h1 h2]
  cases h3 : okRow 0 30 l
  · have H3 := Lib.hid h3
    have C := Lib.hid (h3 ▸ f102_105 a c l w hl (by omega))
    clear h1 h2 h3
    go_enter Try.func66, Try.ntmps66
    go_wp2_with (go_at_call 102; refine C.out.mono ?_; rintro e w' ⟨rfl, rfl⟩)
    go_ret
    exact ⟨rfl, rfl⟩
  · have H3 := Lib.hid h3
    have C := Lib.hid (h3 ▸ f102_105 a c l w hl (by omega))
    clear h1 h2 h3
    go_enter Try.func66, Try.ntmps66
    go_wp2_with (go_at_call 102; refine C.out.mono ?_; rintro e w' ⟨rfl, rfl⟩)
    go_ret
    exact ⟨rfl, rfl⟩
set_option maxHeartbeats 1000000 in
theorem f69_c (a : Option Addr) (n c : Nat) (l : List Int) (w : World) (hl : Ints w a l) (hn : l.length = n) (hlen : n ≤ 1000000) :
    Calls Try.prog 69 #[.slice a n c] w fun e w' => e = .returned (.int .i64 (valM l)) ∧ w = w' := by
  subst hn
  by_cases h1 : 1 ≤ l.length ∧ l.length ≤ 5
  case neg =>
    have d1 : withinB (l.length : Int) 1 5 = false := by rw [within15]; simp; omega
    have hv : valM l = 1 := by
      by_cases h : 1 ≤ l.length
      · exact valM_hi (by omega)
      · exact valM_lo h
    rw [hv]
    clear h1 hv
    have C := Lib.hid (fun w => d1 ▸ f107_c (l.length : Int) 1 5 w)
    go_enter Try.func69, Try.ntmps69
    go_wp2_with (go_at_call 107; refine (C.out _).mono ?_; rintro e w' ⟨rfl, rfl⟩)
    go_ret
    exact ⟨rfl, rfl⟩
  have d1 : withinB (l.length : Int) 1 5 = true := by rw [within15]; simp; omega
  have Hv := Lib.hid (valM_in h1.1 h1.2)
  have C := Lib.hid (fun w => d1 ▸ f107_c (l.length : Int) 1 5 w)
  clear h1 d1
  go_enter Try.func69, Try.ntmps69
  go_wp2_with (go_at_call 107; refine (C.out _).mono ?_; rintro e w' ⟨rfl, rfl⟩)
  go_loop [3] (fun i => ∃ k : Nat, k ≤ l.length ∧ i = .int .i64 k ∧ Hid (∀ j, j < k → withinB (gi l j) 0 30 = true)) (fun i => l.length - (intOf i).toNat)
  case atStart => exact ⟨0, Nat.zero_le _, rfl, fun j hj => by omega⟩
  case round =>
    obtain ⟨k, hk, rfl, H⟩ := hrel
    by_cases hlt : k < l.length
    · obtain ⟨b, off, rfl, hb, hcc⟩ := hl k hlt
      rw [← gi_at] at hcc
      by_cases h3 : withinB (gi l k) 0 30 = true
      · have H3 := Lib.hid h3
        have C3 := Lib.hid (fun w => h3 ▸ f107_c (gi l k) 0 30 w)
        clear h3
        go_wp2_with (go_at_call 107; refine (C3.out _).mono ?_; rintro e w' ⟨rfl, rfl⟩)
        go_round
        case rel =>
          refine ⟨k + 1, by omega, by go_num, fun j hj => ?_⟩
          by_cases e : j = k
          · subst e; exact H3.out
          · exact H.out j (by omega)
        case measure => simp [intOf]; omega
      · have h3' : withinB (gi l k) 0 30 = false := by simpa using h3
        have H3 := Lib.hid (okRow_no hlt h3')
        have C3 := Lib.hid (fun w => h3' ▸ f107_c (gi l k) 0 30 w)
        clear h3 h3'
        go_wp2_with (go_at_call 107; refine (C3.out _).mono ?_; rintro e w' ⟨rfl, rfl⟩)
        go_ret
        exact ⟨ret_int (by rw [Hv.out, H3.out]; rfl), rfl⟩
    · obtain rfl : k = l.length := by omega
      go_wp2_with fail
      go_ret
      exact ⟨ret_int (by rw [Hv.out, okRow_yes H.out]; rfl), rfl⟩

/-! ### tables -/
def sizedB (n m : Nat) (lo hi : Int) (t : Tbl) : Bool := decide (t.length = n) && rowsB m lo hi t

set_option maxHeartbeats 2000000 in
theorem f63_c (a : Option Addr) (n c : Nat) (t : Tbl) (R M : Nat) (most : Int) (w : World) (hl : Table w a t) (hn : t.length = n) (hlen : n ≤ 1000000) (hin : ∀ j, (hj : j < t.length) → t[j].length ≤ 1000000) :
    Calls Try.prog 63 #[.slice a n c, .int .i64 (R : Int), .int .i64 (M : Int), .int .i64 most] w fun e w' => e = .returned (.bool (sizedB R M 0 most t)) ∧ Ext w w' := by
  subst hn
  have hE0 := ext_alloc w (.cells #[.int .i64 most] 3)
  have b0 := Boxed.new w 3 (.int .i64 most)
  by_cases h1 : t.length = R
  case neg =>
    have d1 : ((t.length : Int) != (R : Int)) = true := by simp; omega
    have hv : sizedB R M 0 most t = false := by simp [sizedB, h1]
    rw [hv]
    clear h1 hv
    go_enter Try.func63, Try.ntmps63
    go_wp2_with fail
    go_ret
    exact ⟨rfl, hE0⟩
  have d1 : ((t.length : Int) != (R : Int)) = false := by simp; omega
  have hv : sizedB R M 0 most t = rowsB M 0 most t := by simp [sizedB, h1]
  rw [hv]
  clear h1 hv
  have Hin := Lib.hid hin
  clear hin
  go_enter Try.func63, Try.ntmps63
  go_wp2_with fail
  generalize (w.alloc (.cells #[.int .i64 most] 3)) = w0 at *
  go_loopw [10, 17] (fun _ i wr => ∃ k : Nat, k ≤ t.length ∧ i = .int .i64 k ∧ Ext w0 wr ∧ Hid (∀ j, j < k → (hj : j < t.length) → rowOk M 0 most t[j] = true)) (fun _ i _ => t.length - (intOf i).toNat)
  case atStart => exact ⟨0, Nat.zero_le _, rfl, Below.refl _ _, fun j hj => by omega⟩
  case round =>
    obtain ⟨k, hk, rfl, hE, H⟩ := hrel
    by_cases hlt : k < t.length
    · obtain ⟨b1, o1, a1, c1, rfl, hb1, hc1, hI1⟩ := hl.ext (hE0.trans' hE) k hlt
      have hcb := (box_ext b0 hE).cell
      have hil := Hin.out k hlt
      by_cases h3 : t[k].length = M
      · have d3 : ((t[k].length : Int) != (M : Int)) = false := by simp; omega
        have C := f102_103 most w.heap.size a1 c1 t[k] wr hI1 (by omega) hcb
        cases h4 : okRow 0 most t[k]
        · rw [h4] at C
          have C := Lib.hid C
          have Hg := Lib.hid (rowsB_no (lo := 0) (hi := most) hlt ((rowOk_of h3).trans h4))
          clear h3 h4
          go_wp2_with (go_at_call 102; refine C.out.mono ?_; rintro e w' ⟨rfl, rfl⟩)
          go_ret
          exact ⟨ret_bool Hg.out.symm, hE0.trans' hE⟩
        · rw [h4] at C
          have C := Lib.hid C
          have Hg := Lib.hid ((rowOk_of (lo := 0) (hi := most) h3).trans h4)
          clear h3 h4
          go_wp2_with (go_at_call 102; refine C.out.mono ?_; rintro e w' ⟨rfl, rfl⟩)
          go_roundw
          case rel =>
            refine ⟨k + 1, by omega, by go_num, hE, fun j hj hj2 => ?_⟩
            by_cases e : j = k
            · subst e; exact Hg.out
            · exact H.out j (by omega) hj2
          case measure => simp [intOf]; omega
      · have d3 : ((t[k].length : Int) != (M : Int)) = true := by simp; omega
        have Hg := Lib.hid (rowsB_no (lo := 0) (hi := most) hlt (rowOk_len h3))
        clear h3
        go_wp2_with fail
        go_ret
        exact ⟨ret_bool Hg.out.symm, hE0.trans' hE⟩
    · obtain rfl : k = t.length := by omega
      go_wp2_with fail
      go_ret
      exact ⟨ret_bool (rowsB_yes fun j hj => H.out j hj hj).symm, hE0.trans' hE⟩
theorem tabB_lo {lo hi : Int} {t : Tbl} (h : ¬ (1 ≤ t.length ∧ t.length ≤ 5)) : tabB lo hi t = false := by
  cases hb : tabB lo hi t
  · rfl
  · simp only [tabB, Bool.and_eq_true, decide_eq_true_eq] at hb; exact absurd ⟨hb.1, hb.2.1⟩ h
theorem tabB_lo2 {lo hi : Int} {t : Tbl} (h : ¬ (1 ≤ (row t 0).length ∧ (row t 0).length ≤ 5)) : tabB lo hi t = false := by
  cases hb : tabB lo hi t
  · rfl
  · simp only [tabB, Bool.and_eq_true, decide_eq_true_eq] at hb; exact absurd ⟨hb.2.2.1, hb.2.2.2.1⟩ h
theorem tabB_in {lo hi : Int} {t : Tbl} (h : 1 ≤ t.length ∧ t.length ≤ 5) (h2 : 1 ≤ (row t 0).length ∧ (row t 0).length ≤ 5) : tabB lo hi t = rowsB (row t 0).length lo hi t := by
  simp [tabB, h, h2]
def valT (most : Int) (t : Tbl) : Int := errOf (tabB 0 most t)
theorem valT_ok {most : Int} {t : Tbl} (h : valT most t = 0) : tabB 0 most t = true := errOf_zero.1 h
set_option maxHeartbeats 2000000 in
theorem f17_c (a : Option Addr) (n c : Nat) (t : Tbl) (w : World) (hl : Table w a t) (hn : t.length = n) (hlen : n ≤ 1000000) (hin : ∀ j, (hj : j < t.length) → t[j].length ≤ 1000000) :
    Calls Try.prog 17 #[.slice a n c] w fun e w' => e = .returned (.int .i64 (valT 1000000 t)) ∧ Ext w w' := by
  subst hn
  by_cases h1 : 1 ≤ t.length ∧ t.length ≤ 5
  case neg =>
    have d1 : withinB (t.length : Int) 1 5 = false := by rw [within15]; simp; omega
    have hv : valT 1000000 t = 1 := by unfold valT; rw [tabB_lo h1]; rfl
    rw [hv]
    have C := Lib.hid (fun w => d1 ▸ f62_c (t.length : Int) 1 5 w)
    clear h1 hv d1
    go_enter Try.func17, Try.ntmps17
    go_wp2_with (go_at_call 62; refine (C.out _).mono ?_; rintro e w' ⟨rfl, rfl⟩)
    go_ret
    exact ⟨rfl, Below.refl _ _⟩
  have d1 : withinB (t.length : Int) 1 5 = true := by rw [within15]; simp; omega
  have C := Lib.hid (fun w => d1 ▸ f62_c (t.length : Int) 1 5 w)
  have h0 : 0 < t.length := by omega
  obtain ⟨b0, o0, a0, c0, rfl, hb0, hc0, hI0⟩ := hl 0 h0
  have hr0 : row t 0 = t[0] := row_at h0
  rw [← hr0] at hc0
  simp only [Nat.add_zero] at hc0
  by_cases h2 : 1 ≤ (row t 0).length ∧ (row t 0).length ≤ 5
  case neg =>
    have d2 : withinB ((row t 0).length : Int) 1 5 = false := by rw [within15]; simp; omega
    have hv : valT 1000000 t = 1 := by unfold valT; rw [tabB_lo2 h2]; rfl
    rw [hv]
    have C2 := Lib.hid (fun w => d2 ▸ f62_c ((row t 0).length : Int) 1 5 w)
    clear h2 hv hr0 hI0
    go_enter Try.func17, Try.ntmps17
    go_wp2_with (go_at_call 62; refine (f62_c _ _ _ _).mono ?_; rintro e w' ⟨rfl, rfl⟩)
    go_ret
    exact ⟨rfl, Below.refl _ _⟩
  have d2 : withinB ((row t 0).length : Int) 1 5 = true := by rw [within15]; simp; omega
  have C2 := Lib.hid (fun w => d2 ▸ f62_c ((row t 0).length : Int) 1 5 w)
  have hv : valT 1000000 t = errOf (rowsB (row t 0).length 0 1000000 t) := by unfold valT; rw [tabB_in h1 h2]
  have hs : sizedB t.length (row t 0).length 0 1000000 t = rowsB (row t 0).length 0 1000000 t := by simp [sizedB]
  rw [hv]
  have C3 := f63_c (some ⟨b0, o0, none⟩) t.length c t t.length (row t 0).length 1000000 w hl rfl hlen hin
  rw [hs] at C3
  have C3 := Lib.hid C3
  clear hv hs h1 h2 hr0 hI0 hin
  generalize (row t 0).length = m at *
  generalize rowsB m 0 1000000 t = bb at *
  cases bb
  all_goals
    go_enter Try.func17, Try.ntmps17
    go_wp2_with (first | (go_at_call 62; refine (f62_c _ _ _ _).mono ?_; rintro e w' ⟨rfl, rfl⟩) | (go_at_call 63; refine C3.out.mono ?_; rintro e w1 ⟨rfl, hE1⟩))
    go_ret
    exact ⟨rfl, hE1⟩

set_option maxHeartbeats 2000000 in
theorem f64_c (a : Option Addr) (n c : Nat) (t : Tbl) (lo hi : Int) (w : World) (hl : Table w a t) (hn : t.length = n) (hlen : n ≤ 1000000) (hin : ∀ j, (hj : j < t.length) → t[j].length ≤ 1000000) :
    Calls Try.prog 64 #[.slice a n c, .int .i64 lo, .int .i64 hi] w fun e w' => e = .returned (.bool (tabB lo hi t)) ∧ Ext w w' := by
  subst hn
  by_cases h1 : 1 ≤ t.length ∧ t.length ≤ 5
  case neg =>
    have d1 : withinB (t.length : Int) 1 5 = false := by rw [within15]; simp; omega
    rw [tabB_lo h1]
    have C := Lib.hid (fun w => d1 ▸ f104_c (t.length : Int) 1 5 w)
    clear h1 d1
    go_enter Try.func64, Try.ntmps64
    go_wp2_with (go_at_call 104; refine (C.out _).mono ?_; rintro e w' ⟨rfl, rfl⟩)
    go_ret
    exact ⟨rfl, Below.refl _ _⟩
  have d1 : withinB (t.length : Int) 1 5 = true := by rw [within15]; simp; omega
  have C := Lib.hid (fun w => d1 ▸ f104_c (t.length : Int) 1 5 w)
  have h0 : 0 < t.length := by omega
  obtain ⟨b0, o0, a0, c0, rfl, hb0, hc0, hI0⟩ := hl 0 h0
  have hr0 : row t 0 = t[0] := row_at h0
  rw [← hr0] at hc0
  simp only [Nat.add_zero] at hc0
  by_cases h2 : 1 ≤ (row t 0).length ∧ (row t 0).length ≤ 5
  case neg =>
    have d2 : withinB ((row t 0).length : Int) 1 5 = false := by rw [within15]; simp; omega
    rw [tabB_lo2 h2]
    have C2 := Lib.hid (fun w => d2 ▸ f104_c ((row t 0).length : Int) 1 5 w)
    clear h2 hr0 hI0
    go_enter Try.func64, Try.ntmps64
    go_wp2_with (go_at_call 104; refine (f104_c _ _ _ _).mono ?_; rintro e w' ⟨rfl, rfl⟩)
    go_ret
    exact ⟨rfl, Below.refl _ _⟩
  have d2 : withinB ((row t 0).length : Int) 1 5 = true := by rw [within15]; simp; omega
  have C2 := Lib.hid (fun w => d2 ▸ f104_c ((row t 0).length : Int) 1 5 w)
  rw [tabB_in h1 h2]
  have Hin := Lib.hid hin
  have h5 := h2.2
  clear h1 h2 hr0 hI0 hin
  generalize (row t 0).length = m at *
  go_enter Try.func64, Try.ntmps64
  go_wp2_with (go_at_call 104; refine (f104_c _ _ _ _).mono ?_; rintro e w' ⟨rfl, rfl⟩)
  clear C C2 d1 d2
  go_loopw [7, 8] (fun i _ wr => ∃ k : Nat, k ≤ t.length ∧ i = .int .i64 k ∧ Ext w wr ∧ Hid (∀ j, j < k → (hj : j < t.length) → rowOk m lo hi t[j] = true)) (fun i _ _ => t.length - (intOf i).toNat)
  case atStart => exact ⟨0, Nat.zero_le _, rfl, Below.refl _ _, fun j hj => by omega⟩
  case round =>
    obtain ⟨k, hk, rfl, hE, H⟩ := hrel
    by_cases hlt : k < t.length
    · obtain ⟨b1, o1, a1, c1, e1, hb1, hc1, hI1⟩ := hl.ext hE k hlt
      simp only [Option.some.injEq, Addr.mk.injEq, and_true] at e1
      obtain ⟨rfl, rfl⟩ := e1
      have hc0' := (hE.cell' hb0).trans hc0
      have hil := Hin.out k hlt
      by_cases h3 : t[k].length = m
      · have d3 : ((t[k].length : Int) != (m : Int)) = false := by simp; omega
        have H3 := Lib.hid h3
        clear h3
        obtain ⟨wo, rfl⟩ : ∃ wo : World, wo = wr := ⟨_, rfl⟩
        go_wp2_with fail
        refine wp_region_ext (by kernel_rfl) (by kernel_rfl) ?_
        repeat (go_big_quiet_step (fail))
        refine wpQuiet_nil ?_
        intro w1 hE1
        have hE2 := hE.trans' hE1
        have hc2 := (hE1.cell' hb1).trans hc1
        have hI2 := hI1.ext hE1
        clear hc1 hI1
        go_wp2_with fail
        go_loopw [8] (fun i wr => ∃ q : Nat, q ≤ t[k].length ∧ i = .int .i64 q ∧ Ext w1 wr ∧ Hid (∀ j, j < q → withinB (gi t[k] j) lo hi = true)) (fun i _ => t[k].length - (intOf i).toNat)
        case atStart => exact ⟨0, Nat.zero_le _, rfl, Below.refl _ _, fun j hj => by omega⟩
        case round =>
          obtain ⟨q, hq, rfl, hE3, Hq⟩ := hrel
          have hb1' : b0 < w1.heap.size := Nat.lt_of_lt_of_le hb1 hE1.size
          have hc3 := (hE3.cell' hb1').trans hc2
          by_cases hlq : q < t[k].length
          · obtain ⟨b2, o2, rfl, hb2, hc4⟩ := hI2.ext hE3 q hlq
            rw [← gi_at] at hc4
            by_cases h4 : withinB (gi t[k] q) lo hi = true
            · have H4 := Lib.hid h4
              have C3 := Lib.hid (fun w => h4 ▸ f104_c (gi t[k] q) lo hi w)
              clear h4
              go_wp2_with (go_at_call 104; refine (C3.out _).mono ?_; rintro e w' ⟨rfl, rfl⟩)
              go_roundw
              case rel =>
                refine ⟨q + 1, by omega, by go_num, hE3, fun j hj => ?_⟩
                by_cases e : j = q
                · subst e; exact H4.out
                · exact Hq.out j (by omega)
              case measure => simp [intOf]; omega
            · have h4' : withinB (gi t[k] q) lo hi = false := by simpa using h4
              have H4 := Lib.hid (rowsB_no (m := m) (lo := lo) (hi := hi) hlt ((rowOk_of H3.out).trans (okRow_no hlq h4')))
              have C3 := Lib.hid (fun w => h4' ▸ f104_c (gi t[k] q) lo hi w)
              clear h4 h4'
              go_wp2_with (go_at_call 104; refine (C3.out _).mono ?_; rintro e w' ⟨rfl, rfl⟩)
              go_ret
              exact ⟨ret_bool H4.out.symm, hE2.trans' hE3⟩
          · have hge : ¬ (q : Int) < (t[k].length : Int) := by omega
            have Hq2 := Lib.hid ((rowOk_of (m := m) (lo := lo) (hi := hi) H3.out).trans (okRow_yes fun j hj => Hq.out j (by omega)))
            go_wp2_with fail
            go_roundw
            case rel =>
              refine ⟨k + 1, by omega, by go_num, hE2.trans' hE3, fun j hj hj2 => ?_⟩
              by_cases e : j = k
              · subst e; exact Hq2.out
              · exact H.out j (by omega) hj2
            case measure => simp [intOf]; omega
      · have d3 : ((t[k].length : Int) != (m : Int)) = true := by simp; omega
        have Hg := Lib.hid (rowsB_no (lo := lo) (hi := hi) hlt (rowOk_len h3))
        clear h3
        go_wp2_with fail
        refine wp_region_ext (by kernel_rfl) (by kernel_rfl) ?_
        repeat (go_big_quiet_step (fail))
        refine wpQuiet_nil ?_
        intro w1 hE1
        go_wp2_with fail
        go_ret
        exact ⟨ret_bool Hg.out.symm, hE.trans' hE1⟩
    · obtain rfl : k = t.length := by omega
      go_wp2_with fail
      go_ret
      exact ⟨ret_bool (rowsB_yes fun j hj => H.out j hj hj).symm, hE⟩

theorem f59_c (a : Option Addr) (n c : Nat) (t : Tbl) (w : World) (hl : Table w a t) (hn : t.length = n) (hlen : n ≤ 1000000) (hin : ∀ j, (hj : j < t.length) → t[j].length ≤ 1000000) :
    Calls Try.prog 59 #[.slice a n c] w fun e w' => e = .returned (.int .i64 (valT 99 t)) ∧ Ext w w' := by
  have C := f64_c a n c t 0 99 w hl hn hlen hin
  unfold valT
  cases h : tabB 0 99 t
  all_goals
    rw [h] at C
    have C := Lib.hid C
    clear h
    go_enter Try.func59, Try.ntmps59
    go_wp2_with (go_at_call 64; refine C.out.mono ?_; rintro e w1 ⟨rfl, hE1⟩)
    go_ret
    exact ⟨rfl, hE1⟩

theorem f18_c (a : Option Addr) (n c : Nat) (t : Tbl) (w : World) (hl : Table w a t) (hn : t.length = n) (hlen : n ≤ 1000000) (hin : ∀ j, (hj : j < t.length) → t[j].length ≤ 1000000) :
    Calls Try.prog 18 #[.slice a n c] w fun e w' => e = .returned (.int .i64 (valT 1000000 t)) ∧ Ext w w' := by
  have C := f64_c a n c t 0 1000000 w hl hn hlen hin
  unfold valT
  cases h : tabB 0 1000000 t
  all_goals
    rw [h] at C
    have C := Lib.hid C
    clear h
    go_enter Try.func18, Try.ntmps18
    go_wp2_with (go_at_call 64; refine C.out.mono ?_; rintro e w1 ⟨rfl, hE1⟩)
    go_ret
    exact ⟨rfl, hE1⟩

set_option maxHeartbeats 1000000 in
theorem f101_c (a : Option Addr) (n c M : Nat) (lo hi : Int) (l : List Int) (w : World) (hl : Ints w a l) (hn : l.length = n) (hlen : n ≤ 1000000) :
    Calls Try.prog 101 #[.slice a n c, .int .i64 (M : Int), .int .i64 lo, .int .i64 hi] w fun e w' => e = .returned (.bool (rowOk M lo hi l)) ∧ Ext w w' := by
  subst hn
  have hE0 := (ext_alloc w (.cells #[.int .i64 lo] 3)).trans' (ext_alloc _ (.cells #[.int .i64 hi] 3))
  have b0 := (Boxed.new w 3 (.int .i64 lo)).alloc (.cells #[.int .i64 hi] 3)
  have b1 := Boxed.new (w.alloc (.cells #[.int .i64 lo] 3)) 3 (.int .i64 hi)
  simp only [World.size_alloc] at b1
  have C := Lib.hid (f102_123 lo hi w.heap.size (w.heap.size + 1) a c l _ (hl.ext hE0) (by omega) b0.cell b1.cell)
  clear b0 b1
  by_cases h : l.length = M
  · have d1 : ((l.length : Int) == (M : Int)) = true := by simp; omega
    have hv := rowOk_of (lo := lo) (hi := hi) h
    rw [hv]
    clear h hv
    go_enter Try.func101, Try.ntmps101
    go_wp2_with (go_at_call 102; refine C.out.mono ?_; rintro e w' ⟨rfl, rfl⟩)
    go_ret
    exact ⟨ret_bool (by simp), hE0⟩
  · have d1 : ((l.length : Int) == (M : Int)) = false := by simp; omega
    have hv := rowOk_len (lo := lo) (hi := hi) h
    rw [hv]
    clear h hv
    go_enter Try.func101, Try.ntmps101
    go_wp2_with (go_at_call 102; refine C.out.mono ?_; rintro e w' ⟨rfl, rfl⟩)
    go_ret
    exact ⟨rfl, hE0⟩
set_option maxHeartbeats 2000000 in
theorem f56_c (a : Option Addr) (n c : Nat) (t : Tbl) (w : World) (hl : Table w a t) (hn : t.length = n) (hlen : n ≤ 1000000) (hin : ∀ j, (hj : j < t.length) → t[j].length ≤ 1000000) :
    Calls Try.prog 56 #[.slice a n c] w fun e w' => e = .returned (.int .i64 (valT 99 t)) ∧ Ext w w' := by
  subst hn
  by_cases h1 : 1 ≤ t.length ∧ t.length ≤ 5
  case neg =>
    have d1 : withinB (t.length : Int) 1 5 = false := by rw [within15]; simp; omega
    have hv : valT 99 t = 1 := by unfold valT; rw [tabB_lo h1]; rfl
    rw [hv]
    have C := Lib.hid (fun w => d1 ▸ f100_c (t.length : Int) 1 5 w)
    clear h1 hv d1
    go_enter Try.func56, Try.ntmps56
    go_wp2_with (go_at_call 100; refine (C.out _).mono ?_; rintro e w' ⟨rfl, rfl⟩)
    go_ret
    exact ⟨rfl, Below.refl _ _⟩
  have d1 : withinB (t.length : Int) 1 5 = true := by rw [within15]; simp; omega
  have C := Lib.hid (fun w => d1 ▸ f100_c (t.length : Int) 1 5 w)
  have h0 : 0 < t.length := by omega
  obtain ⟨b0, o0, a0, c0, rfl, hb0, hc0, hI0⟩ := hl 0 h0
  have hr0 : row t 0 = t[0] := row_at h0
  rw [← hr0] at hc0
  simp only [Nat.add_zero] at hc0
  by_cases h2 : 1 ≤ (row t 0).length ∧ (row t 0).length ≤ 5
  case neg =>
    have d2 : withinB ((row t 0).length : Int) 1 5 = false := by rw [within15]; simp; omega
    have hv : valT 99 t = 1 := by unfold valT; rw [tabB_lo2 h2]; rfl
    rw [hv]
    have C2 := Lib.hid (fun w => d2 ▸ f100_c ((row t 0).length : Int) 1 5 w)
    clear h2 hv hr0 hI0
    go_enter Try.func56, Try.ntmps56
    go_wp2_with (go_at_call 100; refine (f100_c _ _ _ _).mono ?_; rintro e w' ⟨rfl, rfl⟩)
    go_ret
    exact ⟨rfl, Below.refl _ _⟩
  have d2 : withinB ((row t 0).length : Int) 1 5 = true := by rw [within15]; simp; omega
  have C2 := Lib.hid (fun w => d2 ▸ f100_c ((row t 0).length : Int) 1 5 w)
  have hv : valT 99 t = errOf (rowsB (row t 0).length 0 99 t) := by unfold valT; rw [tabB_in h1 h2]
  rw [hv]
  have Hin := Lib.hid hin
  have h5 := h2.2
  clear hv h1 h2 hr0 hI0 hin
  generalize (row t 0).length = m at *
  go_enter Try.func56, Try.ntmps56
  go_wp2_with (go_at_call 100; refine (f100_c _ _ _ _).mono ?_; rintro e w' ⟨rfl, rfl⟩)
  clear C C2 d1 d2
  go_loopw [4, 19] (fun _ i wr => ∃ k : Nat, k ≤ t.length ∧ i = .int .i64 k ∧ Ext w wr ∧ Hid (∀ j, j < k → (hj : j < t.length) → rowOk m 0 99 t[j] = true)) (fun _ i _ => t.length - (intOf i).toNat)
  case atStart => exact ⟨0, Nat.zero_le _, rfl, Below.refl _ _, fun j hj => by omega⟩
  case round =>
    obtain ⟨k, hk, rfl, hE, H⟩ := hrel
    by_cases hlt : k < t.length
    · obtain ⟨b1, o1, a1, c1, e1, hb1, hc1, hI1⟩ := hl.ext hE k hlt
      simp only [Option.some.injEq, Addr.mk.injEq, and_true] at e1
      obtain ⟨rfl, rfl⟩ := e1
      have hc0' := (hE.cell' hb0).trans hc0
      have C := f101_c a1 t[k].length c1 m 0 99 t[k] wr hI1 rfl (Hin.out k hlt)
      cases h4 : rowOk m 0 99 t[k]
      · rw [h4] at C
        have C := Lib.hid C
        have Hg := Lib.hid (rowsB_no hlt h4)
        clear h4
        go_wp2_with (go_at_call 101; refine C.out.mono ?_; rintro e w1 ⟨rfl, hE1⟩)
        go_ret
        exact ⟨ret_int (by rw [Hg.out]; rfl), hE.trans' hE1⟩
      · rw [h4] at C
        have C := Lib.hid C
        have Hg := Lib.hid h4
        clear h4
        go_wp2_with (go_at_call 101; refine C.out.mono ?_; rintro e w1 ⟨rfl, hE1⟩)
        go_roundw
        case rel =>
          refine ⟨k + 1, by omega, by go_num, hE.trans' hE1, fun j hj hj2 => ?_⟩
          by_cases e : j = k
          · subst e; exact Hg.out
          · exact H.out j (by omega) hj2
        case measure => simp [intOf]; omega
    · obtain rfl : k = t.length := by omega
      go_wp2_with fail
      go_ret
      exact ⟨ret_int (by rw [rowsB_yes fun j hj => H.out j hj hj]; rfl), hE⟩

end Go.Proofs.Ytaidoaggmllcfaa
