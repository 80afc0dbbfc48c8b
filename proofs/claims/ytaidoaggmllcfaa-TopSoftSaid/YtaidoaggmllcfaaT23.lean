/- Contracts of layer 6: what a table costs. -/
import Derived.Test.YtaidoaggmllcfaaT22
namespace Go.Proofs.Ytaidoaggmllcfaa
open Go.RowKit
attribute [local go_sem] GW.cell

/-- what the first j places of row i cost -/
def spRow (c t : Tbl) (i : Nat) : Nat → Int
  | 0 => 0
  | j + 1 => spRow c t i j + tg t i j * tg c i j
/-- what the first i rows of m places cost -/
def spTo (c t : Tbl) (m : Nat) : Nat → Int
  | 0 => 0
  | i + 1 => spTo c t m i + spRow c t i m
theorem cell_cost {n m : Nat} {c t : Tbl} (hc : TOk n m 0 99 c) (ht : TOk n m 0 150000 t) {i j : Nat} (hi : i < n) (hj : j < m) : 0 ≤ tg t i j * tg c i j ∧ tg t i j * tg c i j ≤ 14850000 := by
  have h1 := hc.bd i j hi hj
  have h2 := ht.bd i j hi hj
  have h3 := Int.mul_nonneg h2.1 h1.1
  have h4 := Int.mul_le_mul h2.2 h1.2 h1.1 (by omega)
  exact ⟨h3, by omega⟩
theorem spRow_bd {n m : Nat} {c t : Tbl} (hc : TOk n m 0 99 c) (ht : TOk n m 0 150000 t) {i : Nat} (hi : i < n) : ∀ j, j ≤ m → 0 ≤ spRow c t i j ∧ spRow c t i j ≤ 14850000 * j
  | 0, _ => by simp [spRow]
  | j + 1, hj => by
    have h1 := spRow_bd hc ht hi j (by omega)
    have h2 := cell_cost hc ht hi (show j < m by omega)
    rw [spRow]; omega
theorem spTo_bd {n m : Nat} {c t : Tbl} (hc : TOk n m 0 99 c) (ht : TOk n m 0 150000 t) : ∀ i, i ≤ n → 0 ≤ spTo c t m i ∧ spTo c t m i ≤ 74250000 * i
  | 0, _ => by simp [spTo]
  | i + 1, hi => by
    have h1 := spTo_bd hc ht i (by omega)
    have h2 := spRow_bd hc ht (show i < n by omega) m (Nat.le_refl _)
    have h3 := ht.m5
    rw [spTo]; omega

set_option maxHeartbeats 4000000 in
theorem f84_c (a b : Option Addr) (n m c d : Nat) (u t : Tbl) (w : World) (hu : Table w a u) (ht : Table w b t) (hU : TOk n m 0 99 u) (hT : TOk n m 0 150000 t) :
    Calls Try.prog 84 #[.slice a n c, .slice b n d] w fun e w' => e = .returned (.int .i64 (spTo u t m n)) ∧ w = w' := by
  have hn5 := hU.n5
  have hm5 := hU.m5
  have HU := Lib.hid hU
  have HT := Lib.hid hT
  have hul := hU.len
  have htl := hT.len
  clear hU hT
  go_enter Try.func84, Try.ntmps84
  go_wp2_with fail
  go_loop [5, 6, 7, 8, 9, 12, 19] (fun s _ _ _ _ i _ => ∃ k : Nat, k ≤ n ∧ i = .int .i64 k ∧ s = .int .i64 (spTo u t m k)) (fun _ _ _ _ _ i _ => n - (intOf i).toNat)
  case atStart => exact ⟨0, Nat.zero_le _, rfl, rfl⟩
  case round =>
    obtain ⟨k, hk, rfl, rfl⟩ := hrel
    by_cases hlt : k < n
    · obtain ⟨b1, o1, a1, c1, rfl, hb1, hc1, hI1⟩ := ht k (by omega)
      obtain ⟨b2, o2, a2, c2, rfl, hb2, hc2, hI2⟩ := hu k (by omega)
      have hs := spTo_bd HU.out HT.out k hk
      have hr := spRow_bd HU.out HT.out hlt
      have hcc := fun j (h : j < m) => cell_cost HU.out HT.out hlt h
      rw [← row_at (by omega)] at hc1 hc2 hI1 hI2
      rw [HT.out.cols k hlt] at hc1
      rw [HU.out.cols k hlt] at hc2
      have hl1 := HT.out.cols k hlt
      have hl2 := HU.out.cols k hlt
      have Hr := Lib.hid hr
      have Hcc := Lib.hid hcc
      have Hst := Lib.hid (show spTo u t m (k + 1) = spTo u t m k + spRow u t k m from rfl)
      have Hbd := Lib.hid (fun j (h : j < m) => And.intro (HU.out.bd k j hlt h) (HT.out.bd k j hlt h))
      generalize spTo u t m k = S at *
      clear hr hcc
      go_wp2_with fail
      go_loop [5, 8, 9, 19] (fun s _ _ i => ∃ q : Nat, q ≤ m ∧ i = .int .i64 q ∧ s = .int .i64 (S + spRow u t k q)) (fun _ _ _ i => m - (intOf i).toNat)
      case atStart => exact ⟨0, Nat.zero_le _, rfl, by simp [spRow]⟩
      case round =>
        obtain ⟨q, hq, rfl, rfl⟩ := hrel
        have hr := Hr.out q hq
        by_cases hlq : q < m
        · obtain ⟨b3, o3, rfl, hb3, hc3⟩ := hI1 q (by omega)
          obtain ⟨b4, o4, rfl, hb4, hc4⟩ := hI2 q (by omega)
          have hcq := Hcc.out q hlq
          have hbq := Hbd.out q hlq
          have Hsu := Lib.hid (show spRow u t k (q + 1) = spRow u t k q + tg t k q * tg u k q from rfl)
          rw [← gi_at] at hc3 hc4
          have e3 : gi (row t k) q = tg t k q := rfl
          have e4 : gi (row u k) q = tg u k q := rfl
          rw [e3] at hc3
          rw [e4] at hc4
          clear e3 e4
          generalize tg t k q = x at *
          generalize tg u k q = y at *
          generalize spRow u t k q = R at *
          go_wp2_with fail
          go_round
          case rel => exact ⟨q + 1, by omega, by go_num, by rw [Hsu.out, Int.add_assoc]⟩
          case measure => simp [intOf]; omega
        · obtain rfl : q = m := by omega
          go_wp2_with fail
          go_round
          case rel => exact ⟨k + 1, by omega, by go_num, by rw [Hst.out]⟩
          case measure => simp [intOf]; omega
    · obtain rfl : k = n := by omega
      go_wp2_with fail
      go_ret
      exact ⟨rfl, rfl⟩

set_option maxHeartbeats 4000000 in
theorem f98_c (a b : Option Addr) (n m c d : Nat) (u t : Tbl) (w : World) (hu : Table w a u) (ht : Table w b t) (hU : TOk n m 0 99 u) (hT : TOk n m 0 150000 t) :
    Calls Try.prog 98 #[.slice a n c, .slice b n d] w fun e w' => e = .returned (.int .i64 (spTo u t m n)) ∧ Ext w w' := by
  have hn5 := hU.n5
  have hm5 := hU.m5
  have HU := Lib.hid hU
  have HT := Lib.hid hT
  have hul := hU.len
  have htl := hT.len
  clear hU hT
  go_enter Try.func98, Try.ntmps98
  go_wp2_with fail
  go_loopw [5, 6, 7] (fun s i _ wr => ∃ k : Nat, k ≤ n ∧ i = .int .i64 k ∧ s = .int .i64 (spTo u t m k) ∧ Ext w wr) (fun _ i _ _ => n - (intOf i).toNat)
  case atStart => exact ⟨0, Nat.zero_le _, rfl, rfl, Below.refl _ _⟩
  case round =>
    obtain ⟨k, hk, rfl, rfl, hE⟩ := hrel
    rename World => wk
    by_cases hlt : k < n
    · obtain ⟨b1, o1, a1, c1, rfl, hb1, hc1, hI1⟩ := ht.ext hE k (by omega)
      obtain ⟨b2, o2, a2, c2, rfl, hb2, hc2, hI2⟩ := hu.ext hE k (by omega)
      have hs := spTo_bd HU.out HT.out k hk
      have hr := spRow_bd HU.out HT.out hlt
      have hcc := fun j (h : j < m) => cell_cost HU.out HT.out hlt h
      rw [← row_at (by omega)] at hc1 hc2 hI1 hI2
      rw [HT.out.cols k hlt] at hc1
      rw [HU.out.cols k hlt] at hc2
      have hl1 := HT.out.cols k hlt
      have hl2 := HU.out.cols k hlt
      have Hr := Lib.hid hr
      have Hcc := Lib.hid hcc
      have Hst := Lib.hid (show spTo u t m (k + 1) = spTo u t m k + spRow u t k m from rfl)
      have Hbd := Lib.hid (fun j (h : j < m) => And.intro (HU.out.bd k j hlt h) (HT.out.bd k j hlt h))
      generalize spTo u t m k = S at *
      clear hr hcc
      go_wp2_with fail
      go_loopw [5, 7] (fun s i wr => ∃ q : Nat, q ≤ m ∧ i = .int .i64 q ∧ s = .int .i64 (S + spRow u t k q) ∧ Ext wk wr) (fun _ i _ => m - (intOf i).toNat)
      case atStart => exact ⟨0, Nat.zero_le _, rfl, by simp [spRow], Below.refl _ _⟩
      case round =>
        obtain ⟨q, hq, rfl, rfl, hE2⟩ := hrel
        have hr := Hr.out q hq
        have hc1 := (hE2.cell' hb1).trans hc1
        have hc2 := (hE2.cell' hb2).trans hc2
        have hb1 := Nat.lt_of_lt_of_le hb1 hE2.size
        have hb2 := Nat.lt_of_lt_of_le hb2 hE2.size
        by_cases hlq : q < m
        · obtain ⟨b3, o3, rfl, hb3, hc3⟩ := hI1.ext hE2 q (by omega)
          obtain ⟨b4, o4, rfl, hb4, hc4⟩ := hI2.ext hE2 q (by omega)
          have hcq := Hcc.out q hlq
          have hbq := Hbd.out q hlq
          have Hsu := Lib.hid (show spRow u t k (q + 1) = spRow u t k q + tg t k q * tg u k q from rfl)
          rw [Int.mul_comm (tg t k q)] at Hsu hcq
          rw [← gi_at] at hc3 hc4
          have e3 : gi (row t k) q = tg t k q := rfl
          have e4 : gi (row u k) q = tg u k q := rfl
          rw [e3] at hc3
          rw [e4] at hc4
          clear e3 e4
          generalize tg t k q = x at *
          generalize tg u k q = y at *
          generalize spRow u t k q = R at *
          go_wp2_with fail
          refine wp_region_ext (by kernel_rfl) (by kernel_rfl) ?_
          repeat (go_big_quiet_step (fail))
          refine wpQuiet_nil ?_
          intro w2 hE3
          clear hc1 hc2 hc3 hc4
          go_wp2_with fail
          go_roundw
          case rel => exact ⟨q + 1, by omega, by go_num, by rw [Hsu.out, Int.add_assoc], hE2.trans' hE3⟩
          case measure => simp [intOf]; omega
        · obtain rfl : q = m := by omega
          go_wp2_with fail
          go_roundw
          case rel => exact ⟨k + 1, by omega, by go_num, by rw [Hst.out], hE.trans' hE2⟩
          case measure => simp [intOf]; omega
    · obtain rfl : k = n := by omega
      go_wp2_with fail
      go_ret
      exact ⟨rfl, hE⟩
end Go.Proofs.Ytaidoaggmllcfaa
