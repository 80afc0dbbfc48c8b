/- Texts of transport, taken over from the seat of layer 6: T1 T2 T3 T4 T5 T6 T7 T8 T9 T10 T11 P1 P2 T16 T17 T18 T19 T20 T21 T22 T23. -/
import Derived.WalkKit
import Derived.WalkSpells
import Derived.WalkLawsBesides
import Derived.Deep.QuietTactic
import Derived.BigQuiet
import Derived.Lib.Hide
import Derived.Lib.AppendZerosOnto
import Derived.Lib.Walk
import Derived.Test.YtfhgnmijigdlmaaTr1
namespace Go.Proofs.Ytfhgnmijigdlmaa.Tr
open Go.RowKit
attribute [local go_sem] GW.cell
theorem f122_c (n lo hi : Int) (w : World) :
    Calls Try.prog 122 #[.int .i64 n, .int .i64 lo, .int .i64 hi] w fun e w' => e = .returned (.bool (withinB n lo hi)) ∧ w = w' := by
  go_enter Try.func122, Try.ntmps122
  go_wp2
  all_goals (go_ret; exact ⟨ret_bool (by simp [withinB]; try omega), rfl⟩)
theorem f125_c (n : Int) (w : World) :
    Calls Try.prog 125 #[.int .i64 n] w fun e w' => e = .returned (.bool (!withinB n 0 30)) ∧ w = w' := by
  go_enter Try.func125, Try.ntmps125
  go_wp2
  all_goals (go_ret; exact ⟨ret_bool (by rw [Bool.eq_iff_iff]; simp [withinB]; try omega), rfl⟩)
theorem f132_c (n lo hi : Int) (b1 b2 : Nat) (w : World) (hc : w.cell? ⟨b1, 0, none⟩ = some (.int .i64 lo)) (hd : w.cell? ⟨b2, 0, none⟩ = some (.int .i64 hi)) :
    Calls Try.prog 132 #[.int .i64 n, .pointer (some ⟨b1, 0, none⟩), .pointer (some ⟨b2, 0, none⟩)] w fun e w' => e = .returned (.bool (!withinB n lo hi)) ∧ w = w' := by
  go_enter Try.func132, Try.ntmps132
  go_wp2_with (go_at_call 122; refine (f122_c _ _ _ _).mono ?_; rintro e w' ⟨rfl, rfl⟩)
  go_ret
  exact ⟨rfl, rfl⟩
theorem okRow_any (lo hi : Int) (l : List Int) : l.any (fun n => !withinB n lo hi) = !okRow lo hi l := by
  simp [okRow, List.any_eq_not_all_not]
theorem f124_105  (a : Option Addr) (c : Nat) (l : List Int) (w : World) (hl : Ints w a l) (hlen : l.length ≤ 140737488355328)  :
    Calls Try.prog 115 #[.slice a l.length c, .func (.func 125) #[] #[]] w fun e w' => e = .returned (.int .i64 (idxP (fun n => !withinB n 0 30) l)) ∧ w = w' := by
  go_enter Try.func115, Try.ntmps115
  go_wp2_with fail
  go_loop [5, 8] (fun _ i => ∃ k : Nat, k ≤ l.length ∧ i = .int .i64 k ∧ Hid (∀ j, j < k → (fun n => !withinB n 0 30) (l[j]?.getD 0) = false)) (fun _ i => l.length - (intOf i).toNat)
  case atStart => exact ⟨0, Nat.zero_le _, rfl, fun j hj => by omega⟩
  case round =>
    obtain ⟨k, hk, rfl, H⟩ := hrel
    by_cases hlt : k < l.length
    · obtain ⟨b, off, rfl, hb, hcc⟩ := hl k hlt
      rw [List.getElem?_eq_getElem hlt, Option.getD_some] at hcc
      go_wp2_with (go_at_call 125; refine (f125_c _ _).mono ?_; rintro e w' ⟨rfl, rfl⟩)
      · have hy : (!withinB l[k] 0 30) = true := by assumption
        go_ret
        exact ⟨ret_int (idxP_hit (p := (fun n => !withinB n 0 30)) hlt H.out hy).symm, rfl⟩
      · have hy : (!withinB l[k] 0 30) = false := by assumption
        go_round
        case rel =>
          refine ⟨k + 1, by omega, by go_num, fun j hj => ?_⟩
          by_cases e : j = k
          · subst e; rw [List.getElem?_eq_getElem hlt]; exact hy
          · exact H.out j (by omega)
        case measure => simp [intOf]; omega
    · obtain rfl : k = l.length := by omega
      go_wp2_with fail
      go_ret
      exact ⟨ret_int (idxP_miss (p := (fun n => !withinB n 0 30)) H.out).symm, rfl⟩
theorem f102_105  (a : Option Addr) (c : Nat) (l : List Int) (w : World) (hl : Ints w a l) (hlen : l.length ≤ 140737488355328)  :
    Calls Try.prog 71 #[.slice a l.length c, .func (.func 125) #[] #[]] w fun e w' => e = .returned (.bool (!okRow 0 30 l)) ∧ w = w' := by
  go_enter Try.func71, Try.ntmps71
  go_wp2_with (go_at_call 115; refine (f124_105 _ _ _ _ hl hlen ).mono ?_; rintro e w' ⟨rfl, rfl⟩)
  go_ret
  exact ⟨ret_bool ((idxP_geq _ _).trans (okRow_any _ _ _)), rfl⟩
theorem f124_123 (lo hi : Int) (b1 b2 : Nat) (a : Option Addr) (c : Nat) (l : List Int) (w : World) (hl : Ints w a l) (hlen : l.length ≤ 140737488355328) (hc : w.cell? ⟨b1, 0, none⟩ = some (.int .i64 lo)) (hd : w.cell? ⟨b2, 0, none⟩ = some (.int .i64 hi)) :
    Calls Try.prog 115 #[.slice a l.length c, .func (.func 132) #[] #[.pointer (some ⟨b1, 0, none⟩), .pointer (some ⟨b2, 0, none⟩)]] w fun e w' => e = .returned (.int .i64 (idxP (fun n => !withinB n lo hi) l)) ∧ w = w' := by
  go_enter Try.func115, Try.ntmps115
  go_wp2_with fail
  go_loop [5, 8] (fun _ i => ∃ k : Nat, k ≤ l.length ∧ i = .int .i64 k ∧ Hid (∀ j, j < k → (fun n => !withinB n lo hi) (l[j]?.getD 0) = false)) (fun _ i => l.length - (intOf i).toNat)
  case atStart => exact ⟨0, Nat.zero_le _, rfl, fun j hj => by omega⟩
  case round =>
    obtain ⟨k, hk, rfl, H⟩ := hrel
    by_cases hlt : k < l.length
    · obtain ⟨b, off, rfl, hb, hcc⟩ := hl k hlt
      rw [List.getElem?_eq_getElem hlt, Option.getD_some] at hcc
      go_wp2_with (go_at_call 132; refine (f132_c _ _ _ _ _ _ hc hd).mono ?_; rintro e w' ⟨rfl, rfl⟩)
      · have hy : (!withinB l[k] lo hi) = true := by assumption
        go_ret
        exact ⟨ret_int (idxP_hit (p := (fun n => !withinB n lo hi)) hlt H.out hy).symm, rfl⟩
      · have hy : (!withinB l[k] lo hi) = false := by assumption
        go_round
        case rel =>
          refine ⟨k + 1, by omega, by go_num, fun j hj => ?_⟩
          by_cases e : j = k
          · subst e; rw [List.getElem?_eq_getElem hlt]; exact hy
          · exact H.out j (by omega)
        case measure => simp [intOf]; omega
    · obtain rfl : k = l.length := by omega
      go_wp2_with fail
      go_ret
      exact ⟨ret_int (idxP_miss (p := (fun n => !withinB n lo hi)) H.out).symm, rfl⟩
theorem f102_123 (lo hi : Int) (b1 b2 : Nat) (a : Option Addr) (c : Nat) (l : List Int) (w : World) (hl : Ints w a l) (hlen : l.length ≤ 140737488355328) (hc : w.cell? ⟨b1, 0, none⟩ = some (.int .i64 lo)) (hd : w.cell? ⟨b2, 0, none⟩ = some (.int .i64 hi)) :
    Calls Try.prog 71 #[.slice a l.length c, .func (.func 132) #[] #[.pointer (some ⟨b1, 0, none⟩), .pointer (some ⟨b2, 0, none⟩)]] w fun e w' => e = .returned (.bool (!okRow lo hi l)) ∧ w = w' := by
  go_enter Try.func71, Try.ntmps71
  go_wp2_with (go_at_call 115; refine (f124_123 _ _ _ _ _ _ _ _ hl hlen hc hd).mono ?_; rintro e w' ⟨rfl, rfl⟩)
  go_ret
  exact ⟨ret_bool ((idxP_geq _ _).trans (okRow_any _ _ _)), rfl⟩
/-- the first number that is not 0 -/
def orL : List Int → Int
  | [] => 0
  | x :: l => if x = 0 then orL l else x
def orTo (l : List Int) : Nat → Int
  | 0 => 0
  | k + 1 => if orTo l k = 0 then gi l k else orTo l k
theorem orTo_cons (x : Int) (l : List Int) : ∀ k, orTo (x :: l) (k + 1) = if x = 0 then orTo l k else x
  | 0 => by simp [orTo, gi]
  | k + 1 => by
    rw [show orTo (x :: l) (k + 1 + 1) = if orTo (x :: l) (k + 1) = 0 then gi (x :: l) (k + 1) else orTo (x :: l) (k + 1) from rfl, orTo_cons x l k]
    by_cases h : x = 0
    · simp [h, orTo, gi]
    · simp [h]
theorem orTo_all : ∀ (l : List Int), orTo l l.length = orL l
  | [] => rfl
  | x :: l => by rw [List.length_cons, orTo_cons, orTo_all l]; rfl
theorem orTo_hit {l : List Int} {k : Nat} : ∀ {n : Nat}, k < n → orTo l k = 0 → gi l k ≠ 0 → orTo l n = gi l k
  | 0, h, _, _ => by omega
  | n + 1, h, h0, h1 => by
    rcases Nat.lt_or_ge k n with h2 | h2
    · have := orTo_hit h2 h0 h1
      show (if orTo l n = 0 then gi l n else orTo l n) = _
      rw [this, if_neg h1]
    · obtain rfl : k = n := by omega
      show (if orTo l k = 0 then gi l k else orTo l k) = _
      rw [if_pos h0]
set_option maxHeartbeats 1000000 in
theorem f101_c (a : Option Addr) (n c : Nat) (l : List Int) (w : World) (hl : Ints w a l) (hn : l.length = n) (hlen : n ≤ 1000000) :
    Calls Try.prog 101 #[.slice a n c] w fun e w' => e = .returned (.int .i64 (orL l)) ∧ w = w' := by
  subst hn
  go_enter Try.func101, Try.ntmps101
  go_wp2_with fail
  go_loop [5, 8] (fun _ i => ∃ k : Nat, k ≤ l.length ∧ i = .int .i64 k ∧ Hid (orTo l k = 0)) (fun _ i => l.length - (intOf i).toNat)
  case atStart => exact ⟨0, Nat.zero_le _, rfl, rfl⟩
  case round =>
    obtain ⟨k, hk, rfl, H⟩ := hrel
    by_cases hlt : k < l.length
    · obtain ⟨b, off, rfl, hb, hcc⟩ := hl k hlt
      rw [← gi_at] at hcc
      by_cases h0 : gi l k = 0
      · have h1 : Hid (orTo l (k + 1) = 0) := Lib.hid (by
          show (if orTo l k = 0 then gi l k else orTo l k) = 0
          rw [if_pos H.out, h0])
        rw [h0] at hcc
        clear h0
        go_wp2_with fail
        go_round
        case rel => exact ⟨k + 1, by omega, by go_num, h1⟩
        case measure => simp [intOf]; omega
      · have h1 := Lib.hid ((orTo_hit hlt H.out h0).symm.trans (orTo_all l))
        have hd : (gi l k != 0) = true := by simp [h0]
        clear h0
        generalize gi l k = x at *
        go_wp2_with fail
        go_ret
        exact ⟨ret_int h1.out, rfl⟩
    · obtain rfl : k = l.length := by omega
      go_wp2_with fail
      go_ret
      exact ⟨ret_int (H.out.symm.trans (orTo_all l)), rfl⟩
def massB (l : List Int) : Bool := decide (1 ≤ l.length) && (decide (l.length ≤ 5) && okRow 0 30 l)
def valM (l : List Int) : Int := errOf (massB l)
theorem massB_ok {l : List Int} (h : massB l = true) : 1 ≤ l.length ∧ l.length ≤ 5 ∧ ∀ j, j < l.length → 0 ≤ gi l j ∧ gi l j ≤ 30 := by
  simp only [massB, Bool.and_eq_true, decide_eq_true_eq] at h
  exact ⟨h.1, h.2.1, fun j hj => okRow_at h.2.2 hj⟩
theorem valM_lo {l : List Int} (h : ¬ 1 ≤ l.length) : valM l = 1 := by simp [valM, massB, h, errOf]
theorem valM_hi {l : List Int} (h : ¬ l.length ≤ 5) : valM l = 1 := by simp [valM, massB, h, errOf]
theorem valM_in {l : List Int} (h1 : 1 ≤ l.length) (h2 : l.length ≤ 5) : valM l = errOf (okRow 0 30 l) := by simp [valM, massB, h1, h2]
theorem within15 (n : Nat) : withinB (n : Int) 1 5 = (decide (1 ≤ n) && decide (n ≤ 5)) := by
  rw [Bool.eq_iff_iff]; simp [withinB]; omega
set_option maxHeartbeats 1000000 in
theorem f104_c (a : Option Addr) (n c : Nat) (l : List Int) (w : World) (hl : Ints w a l) (hn : l.length = n) (hlen : n ≤ 1000000) :
    Calls Try.prog 104 #[.slice a n c] w fun e w' => e = .returned (.int .i64 (valM l)) ∧ w = w' := by
  subst hn
  by_cases h1 : 1 ≤ l.length
  case neg =>
    have d1 : decide ((l.length : Int) < 1) = true := by simp; omega
    rw [valM_lo h1]
    clear h1
    go_enter Try.func104, Try.ntmps104
    go_wp2_with fail
    go_ret
    exact ⟨rfl, rfl⟩
  have d1 : decide ((l.length : Int) < 1) = false := by simp; omega
  by_cases h2 : l.length ≤ 5
  case neg =>
    have d2 : decide (5 < (l.length : Int)) = true := by simp; omega
    rw [valM_hi h2]
    clear h1 h2
    go_enter Try.func104, Try.ntmps104
    go_wp2_with fail
    go_ret
    exact ⟨rfl, rfl⟩
  have d2 : decide (5 < (l.length : Int)) = false := by simp; omega
  rw [valM_in h1 h2]
  cases h3 : okRow 0 30 l
  · have H3 := Lib.hid h3
    have C := Lib.hid (h3 ▸ f102_105 a c l w hl (by omega))
    clear h1 h2 h3
    go_enter Try.func104, Try.ntmps104
    go_wp2_with (go_at_call 71; refine C.out.mono ?_; rintro e w' ⟨rfl, rfl⟩)
    go_ret
    exact ⟨rfl, rfl⟩
  · have H3 := Lib.hid h3
    have C := Lib.hid (h3 ▸ f102_105 a c l w hl (by omega))
    clear h1 h2 h3
    go_enter Try.func104, Try.ntmps104
    go_wp2_with (go_at_call 71; refine C.out.mono ?_; rintro e w' ⟨rfl, rfl⟩)
    go_ret
    exact ⟨rfl, rfl⟩
theorem tabB_lo {lo hi : Int} {t : Tbl} (h : ¬ (1 ≤ t.length ∧ t.length ≤ 5)) : tabB lo hi t = false := by
  cases hb : tabB lo hi t
  · rfl
  · simp only [tabB, Bool.and_eq_true, decide_eq_true_eq] at hb; exact absurd ⟨hb.1, hb.2.1⟩ h
theorem tabB_lo2 {lo hi : Int} {t : Tbl} (h : ¬ (1 ≤ (row t 0).length ∧ (row t 0).length ≤ 5)) : tabB lo hi t = false := by
  cases hb : tabB lo hi t
  · rfl
  · simp only [tabB, Bool.and_eq_true, decide_eq_true_eq] at hb; exact absurd ⟨hb.2.2.1, hb.2.2.2.1⟩ h
theorem tabB_in {lo hi : Int} {t : Tbl} (h : 1 ≤ t.length ∧ t.length ≤ 5) (h2 : 1 ≤ (row t 0).length ∧ (row t 0).length ≤ 5) : tabB lo hi t = rowsB (row t 0).length lo hi t := by
  simp [tabB, h, h2]
def valT (most : Int) (t : Tbl) : Int := errOf (tabB 0 most t)
set_option maxHeartbeats 1000000 in
theorem f123_c (a : Option Addr) (n c M : Nat) (lo hi : Int) (l : List Int) (w : World) (hl : Ints w a l) (hn : l.length = n) (hlen : n ≤ 1000000) :
    Calls Try.prog 123 #[.slice a n c, .int .i64 (M : Int), .int .i64 lo, .int .i64 hi] w fun e w' => e = .returned (.bool (rowOk M lo hi l)) ∧ Ext w w' := by
  subst hn
  have hE0 := (ext_alloc w (.cells #[.int .i64 lo] 3)).trans' (ext_alloc _ (.cells #[.int .i64 hi] 3))
  have b0 := (Boxed.new w 3 (.int .i64 lo)).alloc (.cells #[.int .i64 hi] 3)
  have b1 := Boxed.new (w.alloc (.cells #[.int .i64 lo] 3)) 3 (.int .i64 hi)
  simp only [World.size_alloc] at b1
  have C := Lib.hid (f102_123 lo hi w.heap.size (w.heap.size + 1) a c l _ (hl.ext hE0) (by omega) b0.cell b1.cell)
  clear b0 b1
  by_cases h : l.length = M
  · have d1 : ((l.length : Int) == (M : Int)) = true := by simp; omega
    have hv := rowOk_of (lo := lo) (hi := hi) h
    rw [hv]
    clear h hv
    go_enter Try.func123, Try.ntmps123
    go_wp2_with (go_at_call 71; refine C.out.mono ?_; rintro e w' ⟨rfl, rfl⟩)
    go_ret
    exact ⟨ret_bool (by simp), hE0⟩
  · have d1 : ((l.length : Int) == (M : Int)) = false := by simp; omega
    have hv := rowOk_len (lo := lo) (hi := hi) h
    rw [hv]
    clear h hv
    go_enter Try.func123, Try.ntmps123
    go_wp2_with (go_at_call 71; refine C.out.mono ?_; rintro e w' ⟨rfl, rfl⟩)
    go_ret
    exact ⟨rfl, hE0⟩
set_option maxHeartbeats 2000000 in
theorem f102_c (a : Option Addr) (n c : Nat) (t : Tbl) (w : World) (hl : Table w a t) (hn : t.length = n) (hlen : n ≤ 1000000) (hin : ∀ j, (hj : j < t.length) → t[j].length ≤ 1000000) :
    Calls Try.prog 102 #[.slice a n c] w fun e w' => e = .returned (.int .i64 (valT 99 t)) ∧ Ext w w' := by
  subst hn
  by_cases h1 : 1 ≤ t.length ∧ t.length ≤ 5
  case neg =>
    have d1 : withinB (t.length : Int) 1 5 = false := by rw [within15]; simp; omega
    have hv : valT 99 t = 1 := by unfold valT; rw [tabB_lo h1]; rfl
    rw [hv]
    have C := Lib.hid (fun w => d1 ▸ f122_c (t.length : Int) 1 5 w)
    clear h1 hv d1
    go_enter Try.func102, Try.ntmps102
    go_wp2_with (go_at_call 122; refine (C.out _).mono ?_; rintro e w' ⟨rfl, rfl⟩)
    go_ret
    exact ⟨rfl, Below.refl _ _⟩
  have d1 : withinB (t.length : Int) 1 5 = true := by rw [within15]; simp; omega
  have C := Lib.hid (fun w => d1 ▸ f122_c (t.length : Int) 1 5 w)
  have h0 : 0 < t.length := by omega
  obtain ⟨b0, o0, a0, c0, rfl, hb0, hc0, hI0⟩ := hl 0 h0
  have hr0 : row t 0 = t[0] := row_at h0
  rw [← hr0] at hc0
  simp only [Nat.add_zero] at hc0
  by_cases h2 : 1 ≤ (row t 0).length ∧ (row t 0).length ≤ 5
  case neg =>
    have d2 : withinB ((row t 0).length : Int) 1 5 = false := by rw [within15]; simp; omega
    have hv : valT 99 t = 1 := by unfold valT; rw [tabB_lo2 h2]; rfl
    rw [hv]
    have C2 := Lib.hid (fun w => d2 ▸ f122_c ((row t 0).length : Int) 1 5 w)
    clear h2 hv hr0 hI0
    go_enter Try.func102, Try.ntmps102
    go_wp2_with (go_at_call 122; refine (f122_c _ _ _ _).mono ?_; rintro e w' ⟨rfl, rfl⟩)
    go_ret
    exact ⟨rfl, Below.refl _ _⟩
  have d2 : withinB ((row t 0).length : Int) 1 5 = true := by rw [within15]; simp; omega
  have C2 := Lib.hid (fun w => d2 ▸ f122_c ((row t 0).length : Int) 1 5 w)
  have hv : valT 99 t = errOf (rowsB (row t 0).length 0 99 t) := by unfold valT; rw [tabB_in h1 h2]
  rw [hv]
  have Hin := Lib.hid hin
  have h5 := h2.2
  clear hv h1 h2 hr0 hI0 hin
  generalize (row t 0).length = m at *
  go_enter Try.func102, Try.ntmps102
  go_wp2_with (go_at_call 122; refine (f122_c _ _ _ _).mono ?_; rintro e w' ⟨rfl, rfl⟩)
  clear C C2 d1 d2
  go_loopw [4, 19] (fun _ i wr => ∃ k : Nat, k ≤ t.length ∧ i = .int .i64 k ∧ Ext w wr ∧ Hid (∀ j, j < k → (hj : j < t.length) → rowOk m 0 99 t[j] = true)) (fun _ i _ => t.length - (intOf i).toNat)
  case atStart => exact ⟨0, Nat.zero_le _, rfl, Below.refl _ _, fun j hj => by omega⟩
  case round =>
    obtain ⟨k, hk, rfl, hE, H⟩ := hrel
    by_cases hlt : k < t.length
    · obtain ⟨b1, o1, a1, c1, e1, hb1, hc1, hI1⟩ := hl.ext hE k hlt
      simp only [Option.some.injEq, Addr.mk.injEq, and_true] at e1
      obtain ⟨rfl, rfl⟩ := e1
      have hc0' := (hE.cell' hb0).trans hc0
      have C := f123_c a1 t[k].length c1 m 0 99 t[k] wr hI1 rfl (Hin.out k hlt)
      cases h4 : rowOk m 0 99 t[k]
      · rw [h4] at C
        have C := Lib.hid C
        have Hg := Lib.hid (rowsB_no hlt h4)
        clear h4
        go_wp2_with (go_at_call 123; refine C.out.mono ?_; rintro e w1 ⟨rfl, hE1⟩)
        go_ret
        exact ⟨ret_int (by rw [Hg.out]; rfl), hE.trans' hE1⟩
      · rw [h4] at C
        have C := Lib.hid C
        have Hg := Lib.hid h4
        clear h4
        go_wp2_with (go_at_call 123; refine C.out.mono ?_; rintro e w1 ⟨rfl, hE1⟩)
        go_roundw
        case rel =>
          refine ⟨k + 1, by omega, by go_num, hE.trans' hE1, fun j hj hj2 => ?_⟩
          by_cases e : j = k
          · subst e; exact Hg.out
          · exact H.out j (by omega) hj2
        case measure => simp [intOf]; omega
    · obtain rfl : k = t.length := by omega
      go_wp2_with fail
      go_ret
      exact ⟨ret_int (by rw [rowsB_yes fun j hj => H.out j hj hj]; rfl), hE⟩
theorem info3 : (Try.prog.info? 3).map (fun i => (i.zero, i.size, i.bytes)) = some (some (.int .i64 0), 1, 8) := by kernel_rfl
theorem info31 : (Try.prog.info? 31).map (fun i => (i.zero, i.size, i.bytes)) = some (some (.slice none 0 0), 1, 24) := by kernel_rfl
theorem infoI : InfoOk Try.prog 3 (.int .i64 0) 1 8 := info_parts info3
theorem infoS : InfoOk Try.prog 31 (.slice none 0 0) 1 24 := info_parts info31
theorem made_one (z : Value) (n : Nat) : (madeCells #[z] (n * 1)).toList = List.replicate n z := by
  apply List.ext_getElem (by simp [madeCells])
  intro i h1 h2
  simp [madeCells, Nat.mod_one]
/-- all that a store into a place of the table needs -/
theorem OwnL.spot {T : TypeId} {W : World} {B U g cap n m : Nat} {v : Value} {AA : Nat → Option Addr} {C G O : Nat → Nat} {t : Tbl} (h : OwnL T W B U v AA C G O t) (hn : t.length = n) (hv : v = .slice (some ⟨g, 0, none⟩) n cap) {i : Nat} (hi : i < n) (hm : (row t i).length = m) (hm0 : 0 < m) :
    W.cell? ⟨g, i, none⟩ = some (.slice (some ⟨G i, O i, none⟩) m (C i)) ∧ B ≤ G i ∧ G i < U ∧ ∀ j, j < m → W.cell? ⟨G i, O i + j, none⟩ = some (.int .i64 (tg t i j)) ∧ W.frozen? ⟨G i, O i + j, none⟩ = false := by
  subst hn hv
  obtain ⟨h1, h2, h3, h4, h5⟩ := h.rows i hi (by omega)
  obtain ⟨g', cap', e, _, _, h6⟩ := h.top hi
  injection e with e
  injection e with e
  injection e with e
  subst e
  rw [h1, hm] at h6
  exact ⟨h6, h2, h3, fun j hj => h5 j (by omega)⟩
theorem f101_r (r : Int) (a : Option Addr) (n c : Nat) (l : List Int) (w : World) (hl : Ints w a l) (hn : l.length = n) (hlen : n ≤ 1000000) (hr : orL l = r) :
    Calls Try.prog 101 #[.slice a n c] w fun e w' => e = .returned (.int .i64 r) ∧ w = w' := by subst hr; exact f101_c a n c l w hl hn hlen
theorem ints_new3 (w : World) (x y z : Int) (T : TypeId) (B : Nat) (hB : w.heap.size = B) : Ints (w.alloc (.cells #[.int .i64 x, .int .i64 y, .int .i64 z] T)) (some ⟨B, 0, none⟩) [x, y, z] := by
  subst hB
  intro j hj
  refine ⟨_, _, rfl, by simp, ?_⟩
  match j, hj with
  | 0, _ => simp
  | 1, _ => simp
  | 2, _ => simp
theorem ints_one {l : List Int} : ∀ u ∈ l.map (Value.int IntKind.i64), u.oneCell' = true := by intro u hu; simp at hu; obtain ⟨x, _, rfl⟩ := hu; rfl
set_option maxHeartbeats 1000000 in
theorem f119_c (a : Option Addr) (n c : Nat) (l : List Int) (w : World) (hl : Ints w a l) (hn : l.length = n) (hlen : n ≤ 1000) (hbd : ∀ j, j < l.length → -1000000000000 ≤ gi l j ∧ gi l j ≤ 1000000000000) :
    Calls Try.prog 119 #[.slice a n c] w fun e w' => e = .returned (.int .i64 (sm l)) ∧ w = w' := by
  subst hn
  have Hbd := Lib.hid (smTo_bd2 (M := 1000000000000) hbd)
  have Hb := Lib.hid hbd
  clear hbd
  go_enter Try.func119, Try.ntmps119
  go_wp2_with fail
  go_loop [3, 5, 8] (fun s _ i => ∃ k : Nat, k ≤ l.length ∧ i = .int .i64 k ∧ s = .int .i64 (smTo l k)) (fun _ _ i => l.length - (intOf i).toNat)
  case atStart => exact ⟨0, Nat.zero_le _, rfl, rfl⟩
  case round =>
    obtain ⟨k, hk, rfl, rfl⟩ := hrel
    by_cases hlt : k < l.length
    · obtain ⟨b, off, rfl, hb, hcc⟩ := hl k hlt
      rw [← gi_at] at hcc
      have h1 := Hbd.out k (by omega)
      have h2 := Hb.out k hlt
      have Hs := Lib.hid (smTo_succ l k)
      generalize gi l k = x at *
      generalize smTo l k = y at *
      go_wp2_with fail
      go_round
      case rel => exact ⟨k + 1, by omega, by go_num, by rw [Hs.out]⟩
      case measure => simp [intOf]; omega
    · obtain rfl : k = l.length := by omega
      go_wp2_with fail
      go_ret
      exact ⟨rfl, rfl⟩
/-- the first error of masses and a cost table -/
def fitsB (x y : List Int) (t : Tbl) : Bool := massB x && (massB y && (tabB 0 99 t && (decide (t.length = x.length) && decide ((row t 0).length = y.length))))
def fitsErr (x y : List Int) (t : Tbl) : Int := if fitsB x y t then (if sm x = sm y then 0 else 5) else 1
set_option maxHeartbeats 8000000 in
theorem f98_c (ax bx a : Option Addr) (na nb n c ca cb : Nat) (x y : List Int) (t : Tbl) (w : World) (hx : Ints w ax x) (hxn : x.length = na) (hxl : na ≤ 1000000) (hy : Ints w bx y) (hyn : y.length = nb) (hyl : nb ≤ 1000000) (hl : Table w a t) (hn : t.length = n) (hlen : n ≤ 1000000) (hin : ∀ j, (hj : j < t.length) → t[j].length ≤ 1000000) :
    Calls Try.prog 98 #[.slice ax na ca, .slice bx nb cb, .slice a n c] w fun e w' => e = .returned (.int .i64 (fitsErr x y t)) ∧ Ext w w' := by
  have C1 := f104_c ax na ca x w hx hxn hxl
  have C2 := f104_c bx nb cb y w hy hyn hyl
  have C3 := f102_c a n c t w hl hn hlen hin
  unfold valM at C1 C2
  unfold valT at C3
  cases hv : (massB x && (massB y && tabB 0 99 t))
  · have hr : orL [errOf (massB x), errOf (massB y), errOf (tabB 0 99 t)] = 1 := by
      revert hv
      cases massB x <;> cases massB y <;> cases tabB 0 99 t <;> simp [orL, errOf]
    have hk : fitsErr x y t = 1 := by
      have : fitsB x y t = false := by
        unfold fitsB; revert hv
        cases massB x <;> cases massB y <;> cases tabB 0 99 t <;> simp
      unfold fitsErr; rw [this]; rfl
    rw [hk]
    have C1 := Lib.hid C1
    have C2 := Lib.hid C2
    have C3 := Lib.hid C3
    have Hr := Lib.hid hr
    clear hv hk hr
    generalize errOf (massB x) = e1 at *
    generalize errOf (massB y) = e2 at *
    generalize errOf (tabB 0 99 t) = e3 at *
    go_enter Try.func98, Try.ntmps98
    go_wp2_with fail
    refine C1.out.mono ?_
    rintro e w' ⟨rfl, rfl⟩
    go_wp2_with fail
    refine C2.out.mono ?_
    rintro e w' ⟨rfl, rfl⟩
    go_wp2_with fail
    refine C3.out.mono ?_
    rintro e w1 ⟨rfl, hE1⟩
    go_wp2_with fail
    refine (f101_r 1 _ _ _ [e1, e2, e3] _ (ints_new3 _ _ _ _ _ _ rfl) rfl (by simp) Hr.out).mono ?_
    rintro e w' ⟨rfl, rfl⟩
    go_wp2_with fail
    go_ret
    exact ⟨rfl, hE1.trans' (ext_alloc _ _)⟩
  have h1 : massB x = true := by revert hv; cases massB x <;> simp
  have h2 : massB y = true := by revert hv; cases massB y <;> simp
  have h3 : tabB 0 99 t = true := by revert hv; cases tabB 0 99 t <;> simp
  clear hv
  rw [h1, show errOf true = 0 from rfl] at C1
  rw [h2, show errOf true = 0 from rfl] at C2
  rw [h3, show errOf true = 0 from rfl] at C3
  have C1 := Lib.hid C1
  have C2 := Lib.hid C2
  have C3 := Lib.hid C3
  have hxb := (massB_ok h1).2
  have hyb := (massB_ok h2).2
  have H0 := tabB_ok h3
  have hn1 := H0.n1
  have hm5 := H0.m5
  obtain ⟨b0, o0, a0, c0, e0, hb0, hc0, hI0⟩ := hl 0 (by omega)
  subst e0
  rw [← row_at (by omega)] at hc0
  simp only [Nat.add_zero] at hc0
  have C4 := Lib.hid (fun W (h : Ext w W) => f119_c ax na ca x W (hx.ext h) hxn (by omega) (fun j hj => by have := hxb.2 j hj; omega))
  have C5 := Lib.hid (fun W (h : Ext w W) => f119_c bx nb cb y W (hy.ext h) hyn (by omega) (fun j hj => by have := hyb.2 j hj; omega))
  have hfe : fitsB x y t = (decide (t.length = x.length) && decide ((row t 0).length = y.length)) := by unfold fitsB; rw [h1, h2, h3]; rfl
  unfold fitsErr
  rw [hfe]
  subst hn hxn hyn
  clear h1 h2 h3 hI0 H0 hfe hin hxb hyb
  generalize (row t 0).length = M at *
  by_cases g1 : t.length = x.length
  case neg =>
    have d1 : ((t.length : Int) != (x.length : Int)) = true := by simp; omega
    rw [if_neg (by simp [g1])]
    clear g1
    go_enter Try.func98, Try.ntmps98
    go_wp2_with fail
    refine C1.out.mono ?_
    rintro e w' ⟨rfl, rfl⟩
    go_wp2_with fail
    refine C2.out.mono ?_
    rintro e w' ⟨rfl, rfl⟩
    go_wp2_with fail
    refine C3.out.mono ?_
    rintro e w1 ⟨rfl, hE1⟩
    go_wp2_with fail
    refine (f101_r 0 _ _ _ [0, 0, 0] _ (ints_new3 _ _ _ _ _ _ rfl) rfl (by simp) rfl).mono ?_
    rintro e w' ⟨rfl, rfl⟩
    go_wp2_with fail
    go_ret
    exact ⟨rfl, hE1.trans' (ext_alloc _ _)⟩
  have d1 : ((t.length : Int) != (x.length : Int)) = false := by simp; omega
  by_cases g2 : M = y.length
  case neg =>
    have d2 : ((M : Int) != (y.length : Int)) = true := by simp; omega
    rw [if_neg (by simp [g2])]
    clear g1 g2
    go_enter Try.func98, Try.ntmps98
    go_wp2_with fail
    refine C1.out.mono ?_
    rintro e w' ⟨rfl, rfl⟩
    go_wp2_with fail
    refine C2.out.mono ?_
    rintro e w' ⟨rfl, rfl⟩
    go_wp2_with fail
    refine C3.out.mono ?_
    rintro e w1 ⟨rfl, hE1⟩
    go_wp2_with fail
    refine (f101_r 0 _ _ _ [0, 0, 0] _ (ints_new3 _ _ _ _ _ _ rfl) rfl (by simp) rfl).mono ?_
    rintro e w' ⟨rfl, rfl⟩
    have hE2 := hE1.trans' (ext_alloc w1 (.cells #[.int .i64 0, .int .i64 0, .int .i64 0] 27))
    have hc2 := (hE2.cell' hb0).trans hc0
    go_wp2_with fail
    go_ret
    exact ⟨rfl, hE2⟩
  have d2 : ((M : Int) != (y.length : Int)) = false := by simp; omega
  rw [if_pos (by simp [g1, g2])]
  clear g1 g2
  by_cases hs : sm x = sm y
  all_goals
    first
      | (have d3 : (sm x != sm y) = false := by simp [hs]
         rw [if_pos hs])
      | (have d3 : (sm x != sm y) = true := by simp [hs]
         rw [if_neg hs])
    clear hs
    generalize sm x = s1 at *
    generalize sm y = s2 at *
    go_enter Try.func98, Try.ntmps98
    go_wp2_with fail
    refine C1.out.mono ?_
    rintro e w' ⟨rfl, rfl⟩
    go_wp2_with fail
    refine C2.out.mono ?_
    rintro e w' ⟨rfl, rfl⟩
    go_wp2_with fail
    refine C3.out.mono ?_
    rintro e w1 ⟨rfl, hE1⟩
    go_wp2_with fail
    refine (f101_r 0 _ _ _ [0, 0, 0] _ (ints_new3 _ _ _ _ _ _ rfl) rfl (by simp) rfl).mono ?_
    rintro e w' ⟨rfl, rfl⟩
    have hE2 := hE1.trans' (ext_alloc w1 (.cells #[.int .i64 0, .int .i64 0, .int .i64 0] 27))
    have hc2 := (hE2.cell' hb0).trans hc0
    go_wp2_with fail
    refine (C4.out _ hE2).mono ?_
    rintro e w' ⟨rfl, rfl⟩
    go_wp2_with fail
    refine (C5.out _ hE2).mono ?_
    rintro e w' ⟨rfl, rfl⟩
    go_wp2_with fail
    go_ret
    exact ⟨rfl, hE2⟩
theorem fitsErr_ok {x y : List Int} {t : Tbl} (h : fitsErr x y t = 0) : massB x = true ∧ massB y = true ∧ tabB 0 99 t = true ∧ t.length = x.length ∧ (row t 0).length = y.length ∧ sm x = sm y := by
  unfold fitsErr at h
  split at h
  · next h1 =>
    simp only [fitsB, Bool.and_eq_true, decide_eq_true_eq] at h1
    split at h
    · next h2 => exact ⟨h1.1, h1.2.1, h1.2.2.1, h1.2.2.2.1, h1.2.2.2.2, h2⟩
    · omega
  · omega
/-- what the first j places of row i cost -/
def spRow (c t : Tbl) (i : Nat) : Nat → Int
  | 0 => 0
  | j + 1 => spRow c t i j + tg t i j * tg c i j
/-- what the first i rows of m places cost -/
def spTo (c t : Tbl) (m : Nat) : Nat → Int
  | 0 => 0
  | i + 1 => spTo c t m i + spRow c t i m
theorem cell_cost {n m : Nat} {c t : Tbl} (hc : TOk n m 0 99 c) (ht : TOk n m 0 150000 t) {i j : Nat} (hi : i < n) (hj : j < m) : 0 ≤ tg t i j * tg c i j ∧ tg t i j * tg c i j ≤ 14850000 := by
  have h1 := hc.bd i j hi hj
  have h2 := ht.bd i j hi hj
  have h3 := Int.mul_nonneg h2.1 h1.1
  have h4 := Int.mul_le_mul h2.2 h1.2 h1.1 (by omega)
  exact ⟨h3, by omega⟩
theorem spRow_bd {n m : Nat} {c t : Tbl} (hc : TOk n m 0 99 c) (ht : TOk n m 0 150000 t) {i : Nat} (hi : i < n) : ∀ j, j ≤ m → 0 ≤ spRow c t i j ∧ spRow c t i j ≤ 14850000 * j
  | 0, _ => by simp [spRow]
  | j + 1, hj => by
    have h1 := spRow_bd hc ht hi j (by omega)
    have h2 := cell_cost hc ht hi (show j < m by omega)
    rw [spRow]; omega
theorem spTo_bd {n m : Nat} {c t : Tbl} (hc : TOk n m 0 99 c) (ht : TOk n m 0 150000 t) : ∀ i, i ≤ n → 0 ≤ spTo c t m i ∧ spTo c t m i ≤ 74250000 * i
  | 0, _ => by simp [spTo]
  | i + 1, hi => by
    have h1 := spTo_bd hc ht i (by omega)
    have h2 := spRow_bd hc ht (show i < n by omega) m (Nat.le_refl _)
    have h3 := ht.m5
    rw [spTo]; omega
end Go.Proofs.Ytfhgnmijigdlmaa.Tr
