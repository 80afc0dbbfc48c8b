/- Contracts of the line: moves, their cost, whether they cross. -/
import Derived.Test.YtfhgnmijigdlmaaT12
namespace Go.Proofs.Ytfhgnmijigdlmaa
open Go.RowKit
attribute [local go_sem] GW.cell
theorem goodMove_fr {M : List Move} {k : Nat} (hk : k < M.length) (h : withinB M[k].fr (-1000) 1000 = false) : goodMove M k = false := by unfold goodMove; rw [mvK_at hk, h]; rfl
theorem goodMove_to {M : List Move} {k : Nat} (hk : k < M.length) (h : withinB M[k].to (-1000) 1000 = false) : goodMove M k = false := by unfold goodMove; rw [mvK_at hk, h]; simp
theorem goodMove_m {M : List Move} {k : Nat} (hk : k < M.length) (h : withinB M[k].m 1 150 = false) : goodMove M k = false := by unfold goodMove; rw [mvK_at hk, h]; simp
theorem goodMove_yes {M : List Move} {k : Nat} (hk : k < M.length) (h1 : withinB M[k].fr (-1000) 1000 = true) (h2 : withinB M[k].to (-1000) 1000 = true) (h3 : withinB M[k].m 1 150 = true) : goodMove M k = true := by unfold goodMove; rw [mvK_at hk, h1, h2, h3]; rfl
set_option maxHeartbeats 4000000 in
theorem f83_c (a : Option Addr) (n c : Nat) (M : List Move) (w : World) (hl : Moves w a M) (hn : M.length = n) (hlen : n ≤ 140737488355328) :
    Calls Try.prog 83 #[.slice a n c] w fun e w' => e = .returned (.int .i64 (movesErr M)) ∧ Ext w w' := by
  subst hn
  by_cases h12 : 12 < M.length
  · have hd : decide (12 < (M.length : Int)) = true := by simp; omega
    go_enter Try.func83, Try.ntmps83
    go_wp2_with fail
    go_ret
    exact ⟨ret_int (by unfold movesErr; rw [if_pos h12]), Below.refl _ _⟩
  have hd : decide (12 < (M.length : Int)) = false := by simp; omega
  go_enter Try.func83, Try.ntmps83
  go_wp2_with fail
  go_loopw [10] (fun i wr => ∃ k : Nat, k ≤ M.length ∧ i = .int .i64 k ∧ Ext w wr ∧ Hid (∀ j, j < k → goodMove M j = true)) (fun i _ => M.length - (intOf i).toNat)
  case atStart => exact ⟨0, Nat.zero_le _, rfl, Below.refl _ _, fun j hj => by omega⟩
  case round =>
    obtain ⟨k, hk, rfl, hE, H⟩ := hrel
    by_cases hlt : k < M.length
    case neg =>
      obtain rfl : k = M.length := by omega
      go_wp2_with fail
      go_ret
      exact ⟨ret_int (by unfold movesErr; rw [if_neg h12, if_pos (allMoves_yes H.out)]), hE⟩
    obtain ⟨b, off, rfl, hb, hx, hy, hz⟩ := hl.ext hE k hlt
    rcases Bool.eq_false_or_eq_true (withinB M[k].fr (-1000) 1000) with h1 | h1
    case inr =>
      have Hg := Lib.hid (goodMove_fr hlt h1)
      generalize M[k].fr = ff at *
      generalize M[k].to = tt at *
      generalize M[k].m = mm at *
      go_wp2_with fail
      refine (f91_c _ _).mono ?_
      rintro e w' ⟨rfl, rfl⟩
      rw [h1]
      go_wp2_with fail
      go_ret
      exact ⟨ret_int (by unfold movesErr; rw [if_neg h12, allMoves_no hlt Hg.out]; rfl), hE.trans' (ext_alloc _ _)⟩
    rcases Bool.eq_false_or_eq_true (withinB M[k].to (-1000) 1000) with h2 | h2
    case inr =>
      have Hg := Lib.hid (goodMove_to hlt h2)
      generalize M[k].fr = ff at *
      generalize M[k].to = tt at *
      generalize M[k].m = mm at *
      go_wp2_with fail
      refine (f91_c _ _).mono ?_
      rintro e w' ⟨rfl, rfl⟩
      rw [h1]
      go_wp2_with fail
      refine (f91_c _ _).mono ?_
      rintro e w' ⟨rfl, rfl⟩
      rw [h2]
      go_wp2_with fail
      go_ret
      exact ⟨ret_int (by unfold movesErr; rw [if_neg h12, allMoves_no hlt Hg.out]; rfl), hE.trans' (ext_alloc _ _)⟩
    rcases Bool.eq_false_or_eq_true (decide (M[k].m < 1)) with d3 | d3
    case inl =>
      have e3 : M[k].m < 1 := by simpa using d3
      have Hg := Lib.hid (goodMove_m hlt (by rw [← Bool.not_eq_true, withinB_iff]; omega))
      generalize M[k].fr = ff at *
      generalize M[k].to = tt at *
      generalize M[k].m = mm at *
      go_wp2_with fail
      refine (f91_c _ _).mono ?_
      rintro e w' ⟨rfl, rfl⟩
      rw [h1]
      go_wp2_with fail
      refine (f91_c _ _).mono ?_
      rintro e w' ⟨rfl, rfl⟩
      rw [h2]
      go_wp2_with fail
      go_ret
      exact ⟨ret_int (by unfold movesErr; rw [if_neg h12, allMoves_no hlt Hg.out]; rfl), hE.trans' (ext_alloc _ _)⟩
    have e3 : ¬ M[k].m < 1 := by simpa using d3
    rcases Bool.eq_false_or_eq_true (decide (150 < M[k].m)) with d4 | d4
    case inl =>
      have e4 : 150 < M[k].m := by simpa using d4
      have Hg := Lib.hid (goodMove_m hlt (by rw [← Bool.not_eq_true, withinB_iff]; omega))
      generalize M[k].fr = ff at *
      generalize M[k].to = tt at *
      generalize M[k].m = mm at *
      go_wp2_with fail
      refine (f91_c _ _).mono ?_
      rintro e w' ⟨rfl, rfl⟩
      rw [h1]
      go_wp2_with fail
      refine (f91_c _ _).mono ?_
      rintro e w' ⟨rfl, rfl⟩
      rw [h2]
      go_wp2_with fail
      go_ret
      exact ⟨ret_int (by unfold movesErr; rw [if_neg h12, allMoves_no hlt Hg.out]; rfl), hE.trans' (ext_alloc _ _)⟩
    have e4 : ¬ 150 < M[k].m := by simpa using d4
    have Hg := Lib.hid (goodMove_yes hlt h1 h2 (by rw [withinB_iff]; omega))
    generalize M[k].fr = ff at *
    generalize M[k].to = tt at *
    generalize M[k].m = mm at *
    go_wp2_with fail
    refine (f91_c _ _).mono ?_
    rintro e w' ⟨rfl, rfl⟩
    rw [h1]
    go_wp2_with fail
    refine (f91_c _ _).mono ?_
    rintro e w' ⟨rfl, rfl⟩
    rw [h2]
    go_wp2_with fail
    go_roundw
    case rel =>
      refine ⟨k + 1, by omega, by go_num, hE.trans' (ext_alloc _ _), fun j hj => ?_⟩
      rcases Nat.lt_or_ge j k with e | e
      · exact H.out j e
      · obtain rfl : j = k := by omega
        exact Hg.out
    case measure => simp [intOf]; omega
def costErr (M : List Move) (k : Int) : Int := if movesErr M ≠ 0 then movesErr M else if kindB k then 0 else 1
def costV (M : List Move) (k : Int) : Int := if costErr M k = 0 then costTo M k M.length else 0
theorem mbd_of {M : List Move} (h : movesErr M = 0) : MBd M := fun x hx => by
  obtain ⟨j, hj, rfl⟩ := List.getElem_of_mem hx
  have := allMoves_at (movesErr_ok h).2 hj
  omega
set_option maxHeartbeats 4000000 in
theorem f34_c (a : Option Addr) (n c : Nat) (M : List Move) (k : Int) (w : World) (hl : Moves w a M) (hn : M.length = n) (hlen : n ≤ 140737488355328) :
    Calls Try.prog 34 #[.slice a n c, .int .i64 k] w fun e w' => e = .returned (.tuple #[.int .i64 (costV M k), .int .i64 (costErr M k)]) ∧ Ext w w' := by
  have C1 := f83_c a n c M w hl hn hlen
  by_cases h0 : movesErr M = 0
  case neg =>
    have hb : (movesErr M != 0) = true := by simp [h0]
    have e1 : costErr M k = movesErr M := by unfold costErr; rw [if_pos h0]
    rw [show costV M k = 0 by unfold costV; rw [e1, if_neg h0], e1]
    have C1 := Lib.hid C1
    clear h0 hn e1
    generalize movesErr M = E at *
    go_enter Try.func34, Try.ntmps34
    go_wp2_with fail
    refine C1.out.mono ?_
    rintro e w1 ⟨rfl, hE1⟩
    go_wp2_with fail
    go_ret2
    exact ⟨rfl, hE1⟩
  rw [h0] at C1
  have C1 := Lib.hid C1
  cases hk : kindB k
  · have e1 : costErr M k = 1 := by unfold costErr; rw [if_neg (by simpa using h0), if_neg (by simp [hk])]
    rw [show costV M k = 0 by unfold costV; rw [e1, if_neg (by omega)], e1]
    have k1 : (k != 1) = true := by simp [kindB] at hk ⊢; exact hk.1
    have k2 : (k != 2) = true := by simp [kindB] at hk ⊢; exact hk.2
    clear h0 e1 hk hn
    go_enter Try.func34, Try.ntmps34
    go_wp2_with fail
    refine C1.out.mono ?_
    rintro e w1 ⟨rfl, hE1⟩
    go_wp2_with fail
    go_ret2
    exact ⟨rfl, hE1⟩
  have e1 : costErr M k = 0 := by unfold costErr; rw [if_neg (by simpa using h0), if_pos hk]
  rw [show costV M k = costTo M k M.length by unfold costV; rw [if_pos e1], e1]
  have h12 := (movesErr_ok h0).1
  have C2 := Lib.hid (fun W (h : Ext w W) => f66_c a n c M k W (hl.ext h) hn (by omega) (mbd_of h0) (kind_or hk))
  rw [hn]
  have hk := kind_or hk
  clear h0 e1 hn
  rcases hk with rfl | rfl
  all_goals
    go_enter Try.func34, Try.ntmps34
    go_wp2_with fail
    refine C1.out.mono ?_
    rintro e w1 ⟨rfl, hE1⟩
    go_wp2_with fail
    refine (C2.out _ hE1).mono ?_
    rintro e w2 ⟨rfl, hE2⟩
    go_wp2_with fail
    go_ret2
    exact ⟨rfl, hE1.trans' hE2⟩
/-! crossing -/
def crossB (x y : Move) : Bool := decide (x.fr < y.fr) && decide (y.to < x.to)
set_option maxHeartbeats 2000000 in
theorem f94_c (x y : Move) (B : Nat) (w : World) (hB : BlkC w B #[.int .i64 x.fr, .int .i64 x.to, .int .i64 x.m] 73) :
    Calls Try.prog 94 #[.agg #[.int .i64 y.fr, .int .i64 y.to, .int .i64 y.m], .pointer (some ⟨B, 0, none⟩)] w fun e w' => e = .returned (.bool (crossB x y)) ∧ Ext w w' := by
  have hE := ext_alloc w (.cells #[.int .i64 y.fr, .int .i64 y.to, .int .i64 y.m] 73)
  have c0 := hB.cellv 0 (v := .int .i64 x.fr) rfl
  have c1 := hB.cellv 1 (v := .int .i64 x.to) rfl
  have hlt := hB.lt
  obtain ⟨xf, xt, xm⟩ := x
  obtain ⟨yf, yt, ym⟩ := y
  simp only at *
  by_cases h1 : xf < yf
  · have d1 : decide (xf < yf) = true := by simpa using h1
    by_cases h2 : yt < xt
    · have d2 : decide (yt < xt) = true := by simpa using h2
      have hr : crossB ⟨xf, xt, xm⟩ ⟨yf, yt, ym⟩ = true := by unfold crossB; simp [h1, h2]
      rw [hr]
      clear h1 h2 hr
      go_enter Try.func94, Try.ntmps94
      go_wp2_with fail
      go_ret
      exact ⟨rfl, hE⟩
    · have d2 : decide (yt < xt) = false := by simpa using h2
      have hr : crossB ⟨xf, xt, xm⟩ ⟨yf, yt, ym⟩ = false := by unfold crossB; simp [h1, h2]
      rw [hr]
      clear h1 h2 hr
      go_enter Try.func94, Try.ntmps94
      go_wp2_with fail
      go_ret
      exact ⟨rfl, hE⟩
  · have d1 : decide (xf < yf) = false := by simpa using h1
    have hr : crossB ⟨xf, xt, xm⟩ ⟨yf, yt, ym⟩ = false := by unfold crossB; simp [h1]
    rw [hr]
    clear h1 hr
    go_enter Try.func94, Try.ntmps94
    go_wp2_with fail
    go_ret
    exact ⟨rfl, hE⟩
/-- where the first move stands that crosses x, or -1 -/
def crossIx (M : List Move) (x : Move) : Int := match M.findIdx? (crossB x) with | some i => i | none => -1
theorem crossIx_hit {M : List Move} {x : Move} {k : Nat} (hk : k < M.length) (h : ∀ j, (hj : j < M.length) → j < k → crossB x M[j] = false) (hp : crossB x M[k] = true) : crossIx M x = k := by
  have : M.findIdx? (crossB x) = some k := by
    rw [List.findIdx?_eq_some_iff_getElem]
    exact ⟨hk, hp, fun j hj => by have := h j (by omega) hj; simpa using this⟩
  simp [crossIx, this]
theorem crossIx_miss {M : List Move} {x : Move} (h : ∀ j, (hj : j < M.length) → crossB x M[j] = false) : crossIx M x = -1 := by
  have : M.findIdx? (crossB x) = none := by
    rw [List.findIdx?_eq_none_iff]
    intro y hy
    obtain ⟨j, hj, rfl⟩ := List.getElem_of_mem hy
    exact h j hj
  simp [crossIx, this]
theorem crossIx_any (M : List Move) (x : Move) : decide (0 ≤ crossIx M x) = M.any (crossB x) := by
  unfold crossIx
  cases h : M.findIdx? (crossB x) with
  | none =>
    rw [List.findIdx?_eq_none_iff] at h
    have : M.any (crossB x) = false := by simpa using h
    rw [this]; rfl
  | some i =>
    have : M.any (crossB x) = true := by
      have := List.findIdx?_isSome (p := crossB x) (xs := M)
      rw [h] at this; simpa using this.symm
    rw [this]; simp
set_option maxHeartbeats 4000000 in
theorem f118_c (a : Option Addr) (c : Nat) (M : List Move) (x : Move) (B : Nat) (w : World) (hl : Moves w a M) (hlen : M.length ≤ 1000) (hB : BlkC w B #[.int .i64 x.fr, .int .i64 x.to, .int .i64 x.m] 73) :
    Calls Try.prog 118 #[.slice a M.length c, .func (.func 94) #[] #[.pointer (some ⟨B, 0, none⟩)]] w fun e w' => e = .returned (.int .i64 (crossIx M x)) ∧ Ext w w' := by
  go_enter Try.func118, Try.ntmps118
  go_wp2_with fail
  go_loopw [5, 8] (fun _ i wr => ∃ k : Nat, k ≤ M.length ∧ i = .int .i64 k ∧ Ext w wr ∧ Hid (∀ j, (hj : j < M.length) → j < k → crossB x M[j] = false)) (fun _ i _ => M.length - (intOf i).toNat)
  case atStart => exact ⟨0, Nat.zero_le _, rfl, Below.refl _ _, fun j _ hj => by omega⟩
  case round =>
    obtain ⟨k, hk, rfl, hE, H⟩ := hrel
    by_cases hlt : k < M.length
    · obtain ⟨b, off, rfl, hb, hx, hy, hz⟩ := hl.ext hE k hlt
      have C1 := f94_c x M[k] B wr (hB.ext hE)
      cases hc : crossB x M[k]
      · rw [hc] at C1
        have C1 := Lib.hid C1
        have Hc := Lib.hid hc
        clear hc
        go_wp2_with fail
        refine C1.out.mono ?_
        rintro e w1 ⟨rfl, hE1⟩
        go_wp2_with fail
        go_roundw
        case rel =>
          refine ⟨k + 1, by omega, by go_num, hE.trans' hE1, fun j hj hjk => ?_⟩
          rcases Nat.lt_or_ge j k with e | e
          · exact H.out j hj e
          · obtain rfl : j = k := by omega
            exact Hc.out
        case measure => simp [intOf]; omega
      · rw [hc] at C1
        have C1 := Lib.hid C1
        have Hc := Lib.hid hc
        clear hc
        go_wp2_with fail
        refine C1.out.mono ?_
        rintro e w1 ⟨rfl, hE1⟩
        go_wp2_with fail
        go_ret
        exact ⟨ret_int (crossIx_hit hlt H.out Hc.out).symm, hE.trans' hE1⟩
    · obtain rfl : k = M.length := by omega
      go_wp2_with fail
      go_ret
      exact ⟨ret_int (crossIx_miss (fun j hj => H.out j hj hj)).symm, hE⟩
theorem f93_c (a : Option Addr) (c : Nat) (M : List Move) (x : Move) (B : Nat) (w : World) (hl : Moves w a M) (hlen : M.length ≤ 1000) (hB : BlkC w B #[.int .i64 x.fr, .int .i64 x.to, .int .i64 x.m] 73) :
    Calls Try.prog 93 #[.slice a M.length c, .func (.func 94) #[] #[.pointer (some ⟨B, 0, none⟩)]] w fun e w' => e = .returned (.bool (M.any (crossB x))) ∧ Ext w w' := by
  have C1 := Lib.hid (f118_c a c M x B w hl hlen hB)
  have Ha := Lib.hid (crossIx_any M x)
  generalize crossIx M x = I at *
  go_enter Try.func93, Try.ntmps93
  go_wp2_with fail
  refine C1.out.mono ?_
  rintro e w1 ⟨rfl, hE1⟩
  go_wp2_with fail
  go_ret
  exact ⟨ret_bool Ha.out, hE1⟩
theorem ordB_any (M : List Move) : ordB M = M.all fun x => !M.any (crossB x) := by
  unfold ordB
  congr 1
  funext x
  rw [List.all_eq_not_any_not]
  simp only [Bool.not_not]
  rfl
def isOrdV (M : List Move) : Bool := decide (movesErr M = 0) && ordB M
set_option maxHeartbeats 4000000 in
theorem f51_c (a : Option Addr) (n c : Nat) (M : List Move) (w : World) (hl : Moves w a M) (hn : M.length = n) (hlen : n ≤ 140737488355328) :
    Calls Try.prog 51 #[.slice a n c] w fun e w' => e = .returned (.tuple #[.bool (isOrdV M), .int .i64 (movesErr M)]) ∧ Ext w w' := by
  subst hn
  have C1 := f83_c a M.length c M w hl rfl hlen
  by_cases h0 : movesErr M = 0
  case neg =>
    have hb : (movesErr M != 0) = true := by simp [h0]
    rw [show isOrdV M = false by unfold isOrdV; simp [h0]]
    have C1 := Lib.hid C1
    clear h0
    generalize movesErr M = E at *
    go_enter Try.func51, Try.ntmps51
    go_wp2_with fail
    refine C1.out.mono ?_
    rintro e w1 ⟨rfl, hE1⟩
    go_wp2_with fail
    go_ret2
    exact ⟨rfl, hE1⟩
  have hv : isOrdV M = ordB M := by unfold isOrdV; simp [h0]
  rw [hv]
  rw [h0] at C1 ⊢
  have C1 := Lib.hid C1
  have h12 := (movesErr_ok h0).1
  have Hany := Lib.hid (ordB_any M)
  clear h0 hv
  generalize ordB M = OB at *
  go_enter Try.func51, Try.ntmps51
  go_wp2_with fail
  refine C1.out.mono ?_
  rintro e w1 ⟨rfl, hE1⟩
  go_wp2_with fail
  go_loopw [14] (fun i wr => ∃ k : Nat, k ≤ M.length ∧ i = .int .i64 k ∧ Ext w wr ∧ Hid (∀ j, (hj : j < M.length) → j < k → M.any (crossB M[j]) = false)) (fun i _ => M.length - (intOf i).toNat)
  case atStart => exact ⟨0, Nat.zero_le _, rfl, hE1, fun j _ hj => by omega⟩
  case round =>
    obtain ⟨k, hk, rfl, hE, H⟩ := hrel
    by_cases hlt : k < M.length
    · obtain ⟨b, off, rfl, hb, hx, hy, hz⟩ := hl.ext hE k hlt
      have C2 := f93_c (some ⟨b, off, none⟩) c M M[k] wr.heap.size (wr.alloc (.cells #[.int .i64 M[k].fr, .int .i64 M[k].to, .int .i64 M[k].m] 73)) (hl.ext (hE.trans' (ext_alloc _ _))) (by omega) (BlkC.new wr _ _)
      have hE2 := hE.trans' (ext_alloc wr (.cells #[.int .i64 M[k].fr, .int .i64 M[k].to, .int .i64 M[k].m] 73))
      cases hc : M.any (crossB M[k])
      · rw [hc] at C2
        have C2 := Lib.hid C2
        have Hc := Lib.hid hc
        clear hc
        go_wp2_with fail
        refine C2.out.mono ?_
        rintro e w2 ⟨rfl, hE3⟩
        go_wp2_with fail
        go_roundw
        case rel =>
          refine ⟨k + 1, by omega, by go_num, hE2.trans' hE3, fun j hj hjk => ?_⟩
          rcases Nat.lt_or_ge j k with e | e
          · exact H.out j hj e
          · obtain rfl : j = k := by omega
            exact Hc.out
        case measure => simp [intOf]; omega
      · rw [hc] at C2
        have C2 := Lib.hid C2
        have Hf : OB = false := by rw [Hany.out, List.all_eq_false]; exact ⟨M[k], List.getElem_mem hlt, by simp [hc]⟩
        subst Hf
        clear hc Hany
        go_wp2_with fail
        refine C2.out.mono ?_
        rintro e w2 ⟨rfl, hE3⟩
        go_wp2_with fail
        go_ret2
        exact ⟨rfl, hE2.trans' hE3⟩
    · obtain rfl : k = M.length := by omega
      have Hf : OB = true := by
        rw [Hany.out, List.all_eq_true]
        intro x hx
        obtain ⟨j, hj, rfl⟩ := List.getElem_of_mem hx
        rw [H.out j hj hj]; rfl
      subst Hf
      clear Hany
      go_wp2_with fail
      go_ret2
      exact ⟨rfl, hE⟩
end Go.Proofs.Ytfhgnmijigdlmaa
