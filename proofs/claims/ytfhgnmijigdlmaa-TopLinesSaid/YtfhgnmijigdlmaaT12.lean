/- Contracts of the line's reference: totals, heaps, places of units, the least, heights, areas. -/
import Derived.Test.YtfhgnmijigdlmaaT11
namespace Go.Proofs.Ytfhgnmijigdlmaa
open Go.RowKit
attribute [local go_sem] GW.cell
set_option maxHeartbeats 2000000 in
theorem f44_c (a : Option Addr) (n c : Nat) (l : List Atom) (w : World) (hl : Atoms w a l) (hn : l.length = n) (hlen : n ≤ 140737488355328) :
    Calls Try.prog 44 #[.slice a n c] w fun e w' => e = .returned (.tuple #[.int .i64 (totV l), .int .i64 (valLoad l)]) ∧ Ext w w' := by
  have C1 := f48_c a n c l w hl hn hlen
  unfold totV
  by_cases h0 : valLoad l = 0
  case neg =>
    rw [if_neg h0]
    have hb : (valLoad l != 0) = true := by simp [h0]
    have C1 := Lib.hid C1
    clear h0 hn
    generalize valLoad l = E at *
    go_enter Try.func44, Try.ntmps44
    go_wp2_with fail
    refine C1.out.mono ?_
    rintro e w1 ⟨rfl, hE1⟩
    go_wp2_with fail
    go_ret2
    exact ⟨rfl, hE1⟩
  have C2 := Lib.hid (fun W (h : Ext w W) => f82_c a n c l W (hl.ext h) hn (fine_load h0))
  rw [if_pos h0, ← units_len (fine_load h0)]
  rw [h0] at C1 ⊢
  have C1 := Lib.hid C1
  clear h0 hn
  generalize unitsL l = U at *
  go_enter Try.func44, Try.ntmps44
  go_wp2_with fail
  refine C1.out.mono ?_
  rintro e w1 ⟨rfl, hE1⟩
  go_wp2_with fail
  refine (C2.out _ hE1).mono ?_
  rintro e w2 ⟨b1, d1, rfl, -, hE2⟩
  go_wp2_with fail
  go_ret2
  exact ⟨rfl, hE1.trans' hE2⟩
theorem cnt_succ (U : List Int) (t : Int) {k : Nat} (hk : k < U.length) : (((U.take (k + 1)).countP fun x => decide (x ≤ t) : Nat) : Int) = ((U.take k).countP fun x => decide (x ≤ t) : Nat) + if gi U k ≤ t then 1 else 0 := by
  rw [List.take_succ_eq_append_getElem hk, List.countP_append, List.countP_singleton]
  have e : gi U k = U[k] := by simp [gi, hk]
  rw [e]
  by_cases h : U[k] ≤ t
  · rw [if_pos (by simpa using h), if_pos h]; omega
  · rw [if_neg (by simpa using h), if_neg h]; omega
theorem units_small {l : List Atom} (h : valLoad l = 0) : (unitsL l).length ≤ 180 := by
  have := units_len (fine_load h)
  have := load_total h
  omega
set_option maxHeartbeats 4000000 in
theorem f79_c (a : Option Addr) (n c : Nat) (l : List Atom) (t : Int) (w : World) (hl : Atoms w a l) (hn : l.length = n) (hv : valLoad l = 0) :
    Calls Try.prog 79 #[.slice a n c, .int .i64 t] w fun e w' => e = .returned (.int .i64 (bel l t)) ∧ Ext w w' := by
  have C1 := f82_c a n c l w hl hn (fine_load hv)
  rw [bel_cnt hv]
  have h180 := units_small hv
  clear hn hv
  generalize unitsL l = U at *
  have C1 := Lib.hid C1
  have Hs := Lib.hid (fun k (hk : k < U.length) => cnt_succ U t hk)
  have Hall : Hid (U.take U.length = U) := Lib.hid List.take_length
  have Hle := Lib.hid (fun k => List.countP_le_length (p := fun x => decide (x ≤ t)) (l := U.take k))
  go_enter Try.func79, Try.ntmps79
  go_wp2_with fail
  refine C1.out.mono ?_
  rintro e w1 ⟨aU, cU, rfl, hI, hE1⟩
  have HI := Lib.hid hI
  clear hI
  go_wp2_with fail
  go_loop [5, 7] (fun s i => ∃ k : Nat, k ≤ U.length ∧ i = .int .i64 k ∧ s = .int .i64 ((U.take k).countP fun x => decide (x ≤ t) : Nat)) (fun _ i => U.length - (intOf i).toNat)
  case atStart => exact ⟨0, Nat.zero_le _, rfl, by simp⟩
  case round =>
    obtain ⟨k, hk, rfl, rfl⟩ := hrel
    by_cases hlt : k < U.length
    · obtain ⟨b, off, rfl, hb, hc⟩ := HI.out k hlt
      rw [← gi_at] at hc
      have hs := Hs.out k hlt
      have hle := Hle.out k
      rw [List.length_take] at hle
      by_cases ht : gi U k ≤ t
      · rw [if_pos ht] at hs
        have Hs2 := Lib.hid hs
        clear hs
        generalize gi U k = x at *
        generalize (U.take k).countP (fun x => decide (x ≤ t)) = z at *
        go_wp2_with fail
        go_round
        case rel => exact ⟨k + 1, by omega, by go_num, by rw [Hs2.out]⟩
        case measure => simp [intOf]; omega
      · rw [if_neg ht, Int.add_zero] at hs
        have Hs2 := Lib.hid hs
        clear hs
        generalize gi U k = x at *
        generalize (U.take k).countP (fun x => decide (x ≤ t)) = z at *
        go_wp2_with fail
        go_round
        case rel => exact ⟨k + 1, by omega, by go_num, by rw [Hs2.out]⟩
        case measure => simp [intOf]; omega
    · obtain rfl : k = U.length := by omega
      rw [Hall.out]
      go_wp2_with fail
      go_ret
      exact ⟨rfl, hE1⟩
set_option maxHeartbeats 2000000 in
theorem f45_c (a : Option Addr) (n c : Nat) (l : List Atom) (t : Int) (w : World) (hl : Atoms w a l) (hn : l.length = n) (hlen : n ≤ 140737488355328) :
    Calls Try.prog 45 #[.slice a n c, .int .i64 t] w fun e w' => e = .returned (.tuple #[.int .i64 (belV l t), .int .i64 (valLoad l)]) ∧ Ext w w' := by
  have C1 := f48_c a n c l w hl hn hlen
  unfold belV
  by_cases h0 : valLoad l = 0
  case neg =>
    rw [if_neg h0]
    have hb : (valLoad l != 0) = true := by simp [h0]
    have C1 := Lib.hid C1
    clear h0 hn
    generalize valLoad l = E at *
    go_enter Try.func45, Try.ntmps45
    go_wp2_with fail
    refine C1.out.mono ?_
    rintro e w1 ⟨rfl, hE1⟩
    go_wp2_with fail
    go_ret2
    exact ⟨rfl, hE1⟩
  have C2 := Lib.hid (fun W (h : Ext w W) => f79_c a n c l t W (hl.ext h) hn h0)
  rw [if_pos h0]
  rw [h0] at C1 ⊢
  have C1 := Lib.hid C1
  clear h0 hn
  generalize bel l t = T at *
  go_enter Try.func45, Try.ntmps45
  go_wp2_with fail
  refine C1.out.mono ?_
  rintro e w1 ⟨rfl, hE1⟩
  go_wp2_with fail
  refine (C2.out _ hE1).mono ?_
  rintro e w2 ⟨rfl, hE2⟩
  go_wp2_with fail
  go_ret2
  exact ⟨rfl, hE1.trans' hE2⟩
/-! the place of a unit -/
def plcErr (l : List Atom) (x : Int) : Int := if valLoad l ≠ 0 then valLoad l else if 0 ≤ x ∧ x < (unitsL l).length then 0 else 4
def plcV (l : List Atom) (x : Int) : Int := if plcErr l x = 0 then gi (unitsL l) x.toNat else 0
set_option maxHeartbeats 4000000 in
theorem f46_c (a : Option Addr) (n c : Nat) (l : List Atom) (x : Int) (w : World) (hl : Atoms w a l) (hn : l.length = n) (hlen : n ≤ 140737488355328) :
    Calls Try.prog 46 #[.slice a n c, .int .i64 x] w fun e w' => e = .returned (.tuple #[.int .i64 (plcV l x), .int .i64 (plcErr l x)]) ∧ Ext w w' := by
  have C1 := f48_c a n c l w hl hn hlen
  by_cases h0 : valLoad l = 0
  case neg =>
    have e1 : plcErr l x = valLoad l := by unfold plcErr; rw [if_pos h0]
    rw [show plcV l x = 0 by unfold plcV; rw [e1, if_neg h0], e1]
    have hb : (valLoad l != 0) = true := by simp [h0]
    have C1 := Lib.hid C1
    clear h0 hn e1
    generalize valLoad l = E at *
    go_enter Try.func46, Try.ntmps46
    go_wp2_with fail
    refine C1.out.mono ?_
    rintro e w1 ⟨rfl, hE1⟩
    go_wp2_with fail
    go_ret2
    exact ⟨rfl, hE1⟩
  have C2 := f82_c a n c l
  have h180 := units_small h0
  have e0 : plcErr l x = if 0 ≤ x ∧ x < (unitsL l).length then 0 else 4 := by unfold plcErr; rw [if_neg (by simpa using h0)]
  have e1 : 0 ≤ x ∧ x < (unitsL l).length → plcErr l x = 0 ∧ plcV l x = gi (unitsL l) x.toNat := fun h => by
    have e := e0; rw [if_pos h] at e; exact ⟨e, by unfold plcV; rw [if_pos e]⟩
  have e2 : ¬ (0 ≤ x ∧ x < (unitsL l).length) → plcErr l x = 4 ∧ plcV l x = 0 := fun h => by
    have e := e0; rw [if_neg h] at e; exact ⟨e, by unfold plcV; rw [if_neg (by omega)]⟩
  have C2 := Lib.hid (fun W (h : Ext w W) => f82_c a n c l W (hl.ext h) hn (fine_load h0))
  have E1 := Lib.hid e1
  have E2 := Lib.hid e2
  rw [h0] at C1
  have C1 := Lib.hid C1
  clear h0 hn e0 e1 e2
  generalize unitsL l = U at *
  generalize plcErr l x = EE at *
  generalize plcV l x = VV at *
  by_cases hx : 0 ≤ x ∧ x < U.length
  · obtain ⟨rfl, rfl⟩ := E1.out hx
    obtain ⟨k, rfl⟩ := Int.eq_ofNat_of_zero_le hx.1
    obtain ⟨hx1, hx2⟩ := hx
    have hk : k < U.length := by omega
    have d2 : decide (U.length ≤ k) = false := by simp; omega
    clear E1 E2 hx1 hx2
    rw [Int.toNat_natCast]
    go_enter Try.func46, Try.ntmps46
    go_wp2_with fail
    refine C1.out.mono ?_
    rintro e w1 ⟨rfl, hE1⟩
    go_wp2_with fail
    refine (C2.out _ hE1).mono ?_
    rintro e w2 ⟨aU, cU, rfl, hI, hE2⟩
    obtain ⟨b, off, rfl, hb, hc⟩ := hI k hk
    rw [← gi_at] at hc
    clear hI
    go_wp2_with fail
    go_ret2
    exact ⟨rfl, hE1.trans' hE2⟩
  · obtain ⟨rfl, rfl⟩ := E2.out hx
    by_cases hx1 : x < 0
    · have d1 : decide (x < 0) = true := by simpa using hx1
      clear E1 E2 hx
      go_enter Try.func46, Try.ntmps46
      go_wp2_with fail
      refine C1.out.mono ?_
      rintro e w1 ⟨rfl, hE1⟩
      go_wp2_with fail
      refine (C2.out _ hE1).mono ?_
      rintro e w2 ⟨aU, cU, rfl, hI, hE2⟩
      clear hI
      go_wp2_with fail
      go_ret2
      exact ⟨rfl, hE1.trans' hE2⟩
    · have d1 : decide (x < 0) = false := by simpa using hx1
      have d2 : decide ((U.length : Int) ≤ x) = true := by simp; omega
      clear E1 E2 hx
      go_enter Try.func46, Try.ntmps46
      go_wp2_with fail
      refine C1.out.mono ?_
      rintro e w1 ⟨rfl, hE1⟩
      go_wp2_with fail
      refine (C2.out _ hE1).mono ?_
      rintro e w2 ⟨aU, cU, rfl, hI, hE2⟩
      clear hI
      go_wp2_with fail
      go_ret2
      exact ⟨rfl, hE1.trans' hE2⟩
/-! the least of the reference -/
set_option maxHeartbeats 8000000 in
theorem f32_c (a1 a2 : Option Addr) (n c n2 c2 : Nat) (a b : List Atom) (k : Int) (w : World) (hl : Atoms w a1 a) (hn : a.length = n) (hlen : n ≤ 140737488355328) (hm : Atoms w a2 b) (hn2 : b.length = n2) (hlen2 : n2 ≤ 140737488355328) :
    Calls Try.prog 32 #[.slice a1 n c, .slice a2 n2 c2, .int .i64 k] w fun e w' => e = .returned (.tuple #[.int .i64 (leastV a b k), .int .i64 (leastErr a b k)]) ∧ Ext w w' := by
  have C1 := f69_c a1 a2 n c n2 c2 a b w hl hn hlen hm hn2 hlen2
  by_cases h0 : bothErr a b = 0
  case neg =>
    have e1 : leastErr a b k = bothErr a b := by unfold leastErr; rw [if_pos h0]
    have e2 : leastV a b k = 0 := by unfold leastV; rw [e1, if_neg h0]
    rw [e1, e2]
    have hb : (bothErr a b != 0) = true := by simp [h0]
    have C1 := Lib.hid C1
    clear h0 e1 e2 hn hn2
    generalize bothErr a b = E at *
    go_enter Try.func32, Try.ntmps32
    go_wp2_with fail
    refine C1.out.mono ?_
    rintro e w1 ⟨rfl, hE1⟩
    go_wp2_with fail
    go_ret2
    exact ⟨rfl, hE1⟩
  rw [h0] at C1
  have C1 := Lib.hid C1
  have C2 := fun W => f75_c k 1 2 W
  have hkk : withinB k 1 2 = kindB k := by rw [Bool.eq_iff_iff]; simp [withinB, kindB]; omega
  rw [hkk] at C2
  cases hk : kindB k
  · have e1 : leastErr a b k = 1 := by unfold leastErr; rw [if_neg (by simpa using h0), if_neg (by simp [hk])]
    have e2 : leastV a b k = 0 := by unfold leastV; rw [e1, if_neg (by omega)]
    rw [e1, e2]
    rw [hk] at C2
    have C2 := Lib.hid C2
    clear h0 e1 e2 hk hn hn2 hkk
    go_enter Try.func32, Try.ntmps32
    go_wp2_with fail
    refine C1.out.mono ?_
    rintro e w1 ⟨rfl, hE1⟩
    go_wp2_with fail
    refine (C2.out _).mono ?_
    rintro e w' ⟨rfl, rfl⟩
    go_wp2_with fail
    go_ret2
    exact ⟨rfl, hE1⟩
  rw [hk] at C2
  have C2 := Lib.hid C2
  obtain ⟨v1, v2⟩ := bothErr_ok h0
  have u1 := units_len (fine_load v1)
  have u2 := units_len (fine_load v2)
  have s1 := units_small v1
  have C3 := Lib.hid (fun W (h : Ext w W) => f82_c a1 n c a W (hl.ext h) hn (fine_load v1))
  have C4 := Lib.hid (fun W (h : Ext w W) => f82_c a2 n2 c2 b W (hm.ext h) hn2 (fine_load v2))
  have s2 := units_small v2
  by_cases ht : totalL a = totalL b
  case neg =>
    have e1 : leastErr a b k = 5 := by unfold leastErr; rw [if_neg (by simpa using h0), if_pos hk, if_pos ht]
    have e2 : leastV a b k = 0 := by unfold leastV; rw [e1, if_neg (by omega)]
    rw [e1, e2]
    have d1 : (((unitsL a).length : Int) != ((unitsL b).length : Int)) = true := by simp; omega
    clear h0 e1 e2 hk hn hn2 hkk ht u1 u2 v1 v2
    generalize unitsL a = U at *
    generalize unitsL b = V at *
    go_enter Try.func32, Try.ntmps32
    go_wp2_with fail
    refine C1.out.mono ?_
    rintro e w1 ⟨rfl, hE1⟩
    go_wp2_with fail
    refine (C2.out _).mono ?_
    rintro e w' ⟨rfl, rfl⟩
    go_wp2_with fail
    refine (C3.out _ hE1).mono ?_
    rintro e w2 ⟨aU, cU, rfl, -, hX2⟩
    have hE2 := hE1.trans' hX2
    go_wp2_with fail
    refine (C4.out _ hE2).mono ?_
    rintro e w3 ⟨aV, cV, rfl, -, hX3⟩
    go_wp2_with fail
    go_ret2
    exact ⟨rfl, hE2.trans' hX3⟩
  have hp : linePair a b = 0 := by unfold linePair; rw [if_neg (by simpa using h0), if_neg (by simpa using ht)]
  have e1 := leastErr_mk hp hk
  have e2 : leastV a b k = apartTo (unitsL a) (unitsL b) k (unitsL a).length := by unfold leastV; rw [if_pos e1]; rfl
  rw [e1, e2]
  have Hu := Lib.hid (units_in (fine_load v1))
  have Hv := Lib.hid (units_in (fine_load v2))
  have hUV : (unitsL a).length ≤ (unitsL b).length ∧ (unitsL b).length ≤ (unitsL a).length := by have := pair_len hp; omega
  have d1 : (((unitsL a).length : Int) != ((unitsL b).length : Int)) = false := by simp; omega
  have Hk := Lib.hid (kind_or hk)
  clear h0 e1 e2 hk hn hn2 hkk ht u1 u2 v1 v2 hp
  generalize unitsL a = U at *
  generalize unitsL b = V at *
  have Hbd := Lib.hid (apartTo_bd Hu.out Hv.out k)
  go_enter Try.func32, Try.ntmps32
  go_wp2_with fail
  refine C1.out.mono ?_
  rintro e w1 ⟨rfl, hE1⟩
  go_wp2_with fail
  refine (C2.out _).mono ?_
  rintro e w' ⟨rfl, rfl⟩
  go_wp2_with fail
  refine (C3.out _ hE1).mono ?_
  rintro e w2 ⟨aU, cU, rfl, hIU, hX2⟩
  have hE2 := hE1.trans' hX2
  go_wp2_with fail
  refine (C4.out _ hE2).mono ?_
  rintro e w3 ⟨aV, cV, rfl, hIV, hX3⟩
  have hE3 := hE2.trans' hX3
  have HIU := Lib.hid (hIU.ext hX3)
  have HIV := Lib.hid hIV
  clear hIU hIV
  go_wp2_with fail
  go_loopw [11, 12] (fun s i wr => ∃ q : Nat, q ≤ U.length ∧ i = .int .i64 q ∧ s = .int .i64 (apartTo U V k q) ∧ Ext w3 wr) (fun _ i _ => U.length - (intOf i).toNat)
  case atStart => exact ⟨0, Nat.zero_le _, rfl, rfl, Below.refl _ _⟩
  case round =>
    obtain ⟨q, hq, rfl, rfl, hX4⟩ := hrel
    by_cases hlt : q < U.length
    · obtain ⟨b, off, rfl, hb, hc⟩ := HIU.out.ext hX4 q hlt
      obtain ⟨b', off', rfl, hb', hc'⟩ := HIV.out.ext hX4 q (by omega)
      have h1 := Hu.out q hlt
      have h2 := Hv.out q (by omega)
      have h3 := Hbd.out q (by omega) (by omega)
      have h4 := priceV_bd h1 h2 k
      have Hs := Lib.hid (apartTo_succ U V k q)
      have Hp := Lib.hid (fun W => f76_c (U[q]?.getD 0) (V[q]?.getD 0) k W h1 h2 Hk.out)
      generalize priceV (U[q]?.getD 0) (V[q]?.getD 0) k = P at *
      generalize U[q]?.getD 0 = x at *
      generalize V[q]?.getD 0 = y at *
      generalize apartTo U V k q = A at *
      have hqV : q < V.length := by omega
      go_wp2_with fail
      refine wp_region_ext (by kernel_rfl) (by kernel_rfl) ?_
      repeat (go_big_quiet_step ((go_at_call 76; exact quiet_same (Hp.out _))))
      refine wpQuiet_nil ?_
      intro w5 hX5
      go_wp2_with fail
      go_roundw
      case rel => exact ⟨q + 1, by omega, by go_num, by rw [Hs.out], hX4.trans' hX5⟩
      case measure => simp [intOf]; omega
    · obtain rfl : q = U.length := by omega
      go_wp2_with fail
      go_ret2
      exact ⟨rfl, hE3.trans' hX4⟩
end Go.Proofs.Ytfhgnmijigdlmaa
