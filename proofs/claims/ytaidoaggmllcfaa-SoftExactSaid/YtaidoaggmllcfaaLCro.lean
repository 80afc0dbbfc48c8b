/- The law of cross ratios, walked. -/
import Derived.Test.YtaidoaggmllcfaaT15
import Derived.Test.YtaidoaggmllcfaaLKer
namespace Go.Proofs.Ytaidoaggmllcfaa
open Go.RowKit
attribute [local go_sem] GW.cell

def wideR (t : List (List Rat)) : Bool := t.any (fun l => decide (50 < l.length)) || decide (50 < t.length)
theorem wideR_at {t : List (List Rat)} {k : Nat} (hk : k < t.length) (h : 50 < t[k].length) : wideR t = true := by
  simp only [wideR, Bool.or_eq_true, List.any_eq_true]; exact .inl ⟨t[k], List.getElem_mem hk, by simpa using h⟩
theorem wideR_end {t : List (List Rat)} (h : ∀ j, (hj : j < t.length) → ¬ 50 < t[j].length) : wideR t = decide (50 < t.length) := by
  have : t.any (fun l => decide (50 < l.length)) = false := by
    rw [List.any_eq_false]
    intro x hx
    obtain ⟨j, hj, rfl⟩ := List.getElem_of_mem hx
    simpa using h j hj
  unfold wideR; rw [this]; rfl
theorem wideR_no {t : List (List Rat)} (h : wideR t = false) : t.length ≤ 50 ∧ ∀ j, (hj : j < t.length) → t[j].length ≤ 50 := by
  simp only [wideR, Bool.or_eq_false_iff, List.any_eq_false, decide_eq_false_iff_not] at h
  exact ⟨by omega, fun j hj => by have := h.1 t[j] (List.getElem_mem hj); simpa using this⟩
set_option maxHeartbeats 1000000 in
theorem f29_c (a : Option Addr) (n c : Nat) (l : List (List Rat)) (w : World) (hl : RatT w a l) (hn : l.length = n) (hlen : n ≤ 9223372036854775807) :
    Calls Try.prog 29 #[.slice a n c] w fun e w' => e = .returned (.bool (wideR l)) ∧ w = w' := by
  subst hn
  go_enter Try.func29, Try.ntmps29
  go_wp2_with fail
  go_loop [3] (fun i => ∃ k : Nat, k ≤ l.length ∧ i = .int .i64 k ∧ Hid (∀ j, j < k → (hj : j < l.length) → ¬ 50 < l[j].length)) (fun i => l.length - (intOf i).toNat)
  case atStart => exact ⟨0, Nat.zero_le _, rfl, fun j hj => by omega⟩
  case round =>
    obtain ⟨k, hk, rfl, H⟩ := hrel
    by_cases hlt : k < l.length
    · obtain ⟨b1, o1, a1, c1, rfl, hb1, hc1, hI1⟩ := hl k hlt
      by_cases h5 : 50 < l[k].length
      · have Hg := Lib.hid (wideR_at hlt h5)
        go_wp2_with fail
        go_ret
        exact ⟨ret_bool Hg.out.symm, rfl⟩
      · have Hg := Lib.hid h5
        go_wp2_with fail
        go_round
        case rel =>
          refine ⟨k + 1, by omega, by go_num, fun j hj hj2 => ?_⟩
          by_cases e : j = k
          · subst e; exact Hg.out
          · exact H.out j (by omega) hj2
        case measure => simp [intOf]; omega
    · obtain rfl : k = l.length := by omega
      go_wp2_with fail
      go_ret
      exact ⟨ret_bool (by rw [wideR_end fun j hj => H.out j hj hj]; simp <;> omega), rfl⟩

theorem placed_swap (r c i j m n : Int) : placedB r c m n i j = placedB r c i j m n := by
  unfold placedB
  cases withinB i 0 (r - 1) <;> cases withinB m 0 (r - 1) <;> cases withinB j 0 (c - 1) <;> cases withinB n 0 (c - 1) <;> rfl
theorem crErr_swap (t : List (List Rat)) (i j m n : Int) : crErr t m n i j = crErr t i j m n := by
  unfold crErr
  rw [placed_swap]
  have : ((rg t m.toNat j.toNat).num = 0 ∨ (rg t i.toNat n.toNat).num = 0) = ((rg t i.toNat n.toNat).num = 0 ∨ (rg t m.toNat j.toNat).num = 0) := propext ⟨Or.symm, Or.symm⟩
  simp only [this]
theorem upX_swap (a b c d : Rat) : upX b a d c = upX a b c d := by unfold upX; grind
theorem dnX_swap (a b c d : Rat) : dnX b a d c = dnX a b c d := by unfold dnX; grind
theorem crR_swap (f : Int → Int → Int) (t : List (List Rat)) (i j m n : Int) : crR f t m n i j = crR f t i j m n := by
  unfold crR
  rw [crErr_swap, upX_swap, dnX_swap]
theorem crV_swap (t : List (List Rat)) (i j m n : Int) : crV t m n i j = crV t i j m n := by unfold crV; rw [crR_swap ratN t i j m n, crR_swap ratD t i j m n]

set_option maxRecDepth 20000 in
set_option maxHeartbeats 8000000 in
theorem crosses_walk (w : World) (a : Option Addr) (len cap : Nat) (t : List (List Rat)) (hl : RatT w a t) (hn : t.length = len) (hlen : len ≤ 9223372036854775807) (i j m n : Int) :
    Calls Try.prog 6 #[.slice a len cap, .agg #[.int .i64 i, .int .i64 j, .int .i64 m, .int .i64 n]] w fun e w' => e = .returned (.bool true) ∧ Below w.heap.size w w' := by
  have hE0 := ext_alloc w (.cells #[.int .i64 i, .int .i64 j, .int .i64 m, .int .i64 n] 43)
  have HB := Lib.hid (BlkC.new w #[.int .i64 i, .int .i64 j, .int .i64 m, .int .i64 n] 43)
  have C29 := f29_c a len cap t _ (hl.ext hE0) hn hlen
  have kb0 := HB.out.cellv 0 (v := .int .i64 i) rfl
  have kb1 := HB.out.cellv 1 (v := .int .i64 j) rfl
  have kb2 := HB.out.cellv 2 (v := .int .i64 m) rfl
  have kb3 := HB.out.cellv 3 (v := .int .i64 n) rfl
  have lt1 := HB.out.lt
  cases hw : wideR t
  case true =>
    rw [hw] at C29
    have C29 := Lib.hid C29
    clear hw
    go_enter Try.func6, Try.ntmps6
    go_wp2_with fail
    generalize w.alloc (.cells #[.int .i64 i, .int .i64 j, .int .i64 m, .int .i64 n] 43) = w0 at *
    refine C29.out.mono ?_
    rintro e w1 ⟨rfl, rfl⟩
    go_wp2_with fail
    refine (f14_c _).mono ?_
    rintro e w2 ⟨rfl, hE2⟩
    go_wp2_with fail
    go_ret
    exact ⟨rfl, hE0.trans' hE2⟩
  rw [hw] at C29
  have C29 := Lib.hid C29
  obtain ⟨h50, hrow⟩ := wideR_no hw
  have C30 := fun W (h : Ext w W) => f30_c a len cap t i j m n W (hl.ext h) hn (by omega) (fun q hq => by have := hrow q hq; omega)
  have C31 := fun W (h : Ext w W) => f31_c a len cap t i j m n W (hl.ext h) hn (by omega) (fun q hq => by have := hrow q hq; omega)
  have C30b := fun W (h : Ext w W) => f30_c a len cap t m n i j W (hl.ext h) hn (by omega) (fun q hq => by have := hrow q hq; omega)
  unfold RetRat at C30 C31 C30b
  rw [crErr_swap] at C30b
  simp only [crV_swap t i j m n] at C30b
  unfold crV at C30 C31 C30b
  generalize crR ratN t i j m n = x at *
  generalize crR ratD t i j m n = y at *
  generalize crErr t i j m n = E at *
  have C30 := Lib.hid C30
  have C31 := Lib.hid C31
  have C30b := Lib.hid C30b
  have e0 : (E == E) = true := by simp
  clear hw hrow h50 hn hlen
  go_enter Try.func6, Try.ntmps6
  go_wp2_with fail
  generalize w.alloc (.cells #[.int .i64 i, .int .i64 j, .int .i64 m, .int .i64 n] 43) = w0 at *
  refine C29.out.mono ?_
  rintro e w1 ⟨rfl, rfl⟩
  go_wp2_with fail
  refine (C30.out _ hE0).mono ?_
  rintro e w1 ⟨rfl, hX1⟩
  have P1 := Lib.hid (Pair.new w1 46 (.int .i64 x) (.int .i64 y))
  have hX1 := hX1.trans' (ext_alloc w1 (.cells #[.int .i64 x, .int .i64 y] 46))
  clear kb0 kb1 kb2 kb3
  have kb0 := (HB.out.ext hX1).cellv 0 (v := .int .i64 i) rfl
  have kb1 := (HB.out.ext hX1).cellv 1 (v := .int .i64 j) rfl
  have kb2 := (HB.out.ext hX1).cellv 2 (v := .int .i64 m) rfl
  have kb3 := (HB.out.ext hX1).cellv 3 (v := .int .i64 n) rfl
  go_wp2_with fail
  generalize w1.alloc (.cells #[.int .i64 x, .int .i64 y] 46) = w2 at *
  refine (C31.out _ (hE0.trans' hX1)).mono ?_
  rintro e w3 ⟨rfl, hX3⟩
  have P3 := Lib.hid (Pair.new w3 46 (.int .i64 x) (.int .i64 y))
  have hX4 := hX3.trans' (ext_alloc w3 (.cells #[.int .i64 x, .int .i64 y] 46))
  have P1 := Lib.hid (P1.out.ext hX4)
  have hX1 := hX1.trans' hX4
  clear kb0 kb1 kb2 kb3 hX3 hX4
  have kb0 := (HB.out.ext hX1).cellv 0 (v := .int .i64 i) rfl
  have kb1 := (HB.out.ext hX1).cellv 1 (v := .int .i64 j) rfl
  have kb2 := (HB.out.ext hX1).cellv 2 (v := .int .i64 m) rfl
  have kb3 := (HB.out.ext hX1).cellv 3 (v := .int .i64 n) rfl
  go_wp2_with fail
  generalize w3.alloc (.cells #[.int .i64 x, .int .i64 y] 46) = w4 at *
  refine (C30b.out _ (hE0.trans' hX1)).mono ?_
  rintro e w5 ⟨rfl, hX5⟩
  have P5 := Pair.new w5 46 (.int .i64 x) (.int .i64 y)
  have hX6 := hX5.trans' (ext_alloc w5 (.cells #[.int .i64 x, .int .i64 y] 46))
  have P1 := P1.out.ext hX6
  have P3 := P3.out.ext hX6
  have hX1 := hX1.trans' hX6
  clear kb0 kb1 kb2 kb3 hX5 hX6
  have p0 := P1.cell0
  have p1 := P1.cell1
  have p2 := P3.cell0
  have p3 := P3.cell1
  have p4 := P5.cell0
  have p5 := P5.cell1
  go_wp2_with fail
  refine (f14_c _).mono ?_
  rintro e w7 ⟨rfl, hE7⟩
  go_wp2_with fail
  go_ret
  exact ⟨rfl, hE0.trans' (hX1.trans' hE7)⟩
end Go.Proofs.Ytaidoaggmllcfaa
