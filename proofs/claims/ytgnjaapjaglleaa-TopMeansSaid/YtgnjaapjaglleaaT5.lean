/- Contracts of layer 7: apart, IsBefore, equal lists of atoms. -/
import Derived.Test.YtgnjaapjaglleaaT4
namespace Go.Proofs.Ytgnjaapjaglleaa
open Go.RowKit
attribute [local go_sem] GW.cell
def pairV (l m : List Atom) : Prop := Fine l ∧ Fine m ∧ totalL l = totalL m
theorem pair_fine {l m : List Atom} (h : pairErr l m = 0) : pairV l m := by
  obtain ⟨h1, h2, h3⟩ := pairErr_ok h
  exact ⟨fine_atoms h1, fine_atoms h2, h3⟩
def beforeB (l m : List Atom) : Bool := decide (pairErr l m = 0) && leU (unitsL l) (unitsL m)
def apartErr (l m : List Atom) (k : Int) : Int := if pairErr l m ≠ 0 then pairErr l m else if kindB k then 0 else 1
def apartV (l m : List Atom) (k : Int) : Int := if apartErr l m k = 0 then apartL l m k else 0
theorem ret_ii {x x' y y' : Int} (h1 : x = x') (h2 : y = y') : Ending.returned (.tuple #[.int .i64 x, .int .i64 y]) = .returned (.tuple #[.int .i64 x', .int .i64 y']) := by rw [h1, h2]
theorem ret_bi {x x' : Bool} {y y' : Int} (h1 : x = x') (h2 : y = y') : Ending.returned (.tuple #[.bool x, .int .i64 y]) = .returned (.tuple #[.bool x', .int .i64 y']) := by rw [h1, h2]
theorem kind_or {k : Int} (h : kindB k = true) : k = 1 ∨ k = 2 := by simpa [kindB] using h

set_option maxHeartbeats 2000000 in
theorem f75_c (a a2 : Option Addr) (n c n2 c2 : Nat) (l m : List Atom) (k : Int) (w : World) (hl : Atoms w a l) (hn : l.length = n) (hm : Atoms w a2 m) (hn2 : m.length = n2) (hP : pairV l m) (hk : k = 1 ∨ k = 2) :
    Calls Try.prog 75 #[.slice a n c, .slice a2 n2 c2, .int .i64 k] w fun e w' => e = .returned (.int .i64 (apartL l m k)) ∧ Ext w w' := by
  obtain ⟨hF, hG, ht⟩ := hP
  have hUV := units_eq hF hG ht
  have hU40 := units_40 hF
  have Hu := Lib.hid (units_in hF)
  have Hv := Lib.hid (units_in hG)
  have H1 := Lib.hid (fun W (h : Atoms W a l) => f61_c a n c l W h hn hF)
  have H2 := Lib.hid (fun W (h : Atoms W a2 m) => f61_c a2 n2 c2 m W h hn2 hG)
  unfold apartL
  generalize unitsL l = U at *
  generalize unitsL m = V at *
  have Hbd := Lib.hid (apartTo_bd Hu.out Hv.out k)
  have Hk := Lib.hid hk
  clear hk ht hF hG
  go_enter Try.func75, Try.ntmps75
  go_wp2_with fail
  refine (H2.out _ hm).mono ?_
  rintro e w1 ⟨b2, d2, rfl, hI2, hE1⟩
  go_wp2_with fail
  refine (H1.out _ (hl.ext hE1)).mono ?_
  rintro e w2 ⟨b1, d1, rfl, hI1, hE2⟩
  have hI2 := hI2.ext hE2
  clear H1 H2
  go_wp2_with fail
  go_loopw [8, 16] (fun s i wr => ∃ q : Nat, q ≤ U.length ∧ i = .int .i64 q ∧ s = .int .i64 (apartTo U V k q) ∧ Ext w2 wr) (fun _ i _ => U.length - (intOf i).toNat)
  case atStart => exact ⟨0, Nat.zero_le _, rfl, rfl, Below.refl _ _⟩
  case round =>
    obtain ⟨q, hq, rfl, rfl, hE3⟩ := hrel
    by_cases hlt : q < U.length
    · obtain ⟨b, off, rfl, hb, hc⟩ := hI1.ext hE3 q hlt
      obtain ⟨b', off', rfl, hb', hc'⟩ := hI2.ext hE3 q (by omega)
      have h1 := Hu.out q hlt
      have h2 := Hv.out q (by omega)
      have h3 := Hbd.out q (by omega) (by omega)
      have h4 := priceV_bd h1 h2 k
      have Hs := Lib.hid (apartTo_succ U V k q)
      generalize U[q]?.getD 0 = x at *
      generalize V[q]?.getD 0 = y at *
      have hqV : q < V.length := by omega
      go_wp2_with fail
      refine (f100_c x y k _ h1 h2 Hk.out).mono ?_
      rintro e w3 ⟨rfl, rfl⟩
      go_wp2_with fail
      go_roundw
      case rel => exact ⟨q + 1, by omega, by go_num, by rw [Hs.out], hE3⟩
      case measure => simp [intOf]; omega
    · obtain rfl : q = U.length := by omega
      go_wp2_with fail
      go_ret
      exact ⟨rfl, (hE1.trans' hE2).trans' hE3⟩

set_option maxHeartbeats 2000000 in
theorem f77_c (a a2 : Option Addr) (n c n2 c2 : Nat) (l m : List Atom) (k : Int) (w : World) (hl : Atoms w a l) (hn : l.length = n) (hm : Atoms w a2 m) (hn2 : m.length = n2) (hP : pairV l m) (hk : k = 1 ∨ k = 2) :
    Calls Try.prog 77 #[.slice a n c, .slice a2 n2 c2, .int .i64 k] w fun e w' => e = .returned (.int .i64 (apartL l m k)) ∧ Ext w w' := by
  obtain ⟨hF, hG, ht⟩ := hP
  have hUV := units_eq hF hG ht
  have hU40 := units_40 hF
  have Hu := Lib.hid (units_in hF)
  have Hv := Lib.hid (units_in hG)
  have H1 := Lib.hid (fun W (h : Atoms W a l) => f63_c a n c l W h hn hF)
  have H2 := Lib.hid (fun W (h : Atoms W a2 m) => f63_c a2 n2 c2 m W h hn2 hG)
  unfold apartL
  generalize unitsL l = U at *
  generalize unitsL m = V at *
  have Hbd := Lib.hid (apartTo_bd Hu.out Hv.out k)
  have Hk := Lib.hid hk
  clear hk ht hF hG
  go_enter Try.func77, Try.ntmps77
  go_wp2_with fail
  refine (H1.out _ hl).mono ?_
  rintro e w1 ⟨b1, d1, rfl, hI1, hE1⟩
  go_wp2_with fail
  refine (H2.out _ (hm.ext hE1)).mono ?_
  rintro e w2 ⟨b2, d2, rfl, hI2, hE2⟩
  have hI1 := hI1.ext hE2
  clear H1 H2
  go_wp2_with fail
  go_loopw [9, 10] (fun s i wr => ∃ q : Nat, q ≤ U.length ∧ i = .int .i64 q ∧ s = .int .i64 (apartTo U V k q) ∧ Ext w2 wr) (fun _ i _ => U.length - (intOf i).toNat)
  case atStart => exact ⟨0, Nat.zero_le _, rfl, rfl, Below.refl _ _⟩
  case round =>
    obtain ⟨q, hq, rfl, rfl, hE3⟩ := hrel
    by_cases hlt : q < U.length
    · obtain ⟨b, off, rfl, hb, hc⟩ := hI1.ext hE3 q hlt
      obtain ⟨b', off', rfl, hb', hc'⟩ := hI2.ext hE3 q (by omega)
      have h1 := Hu.out q hlt
      have h2 := Hv.out q (by omega)
      have h3 := Hbd.out q (by omega) (by omega)
      have h4 := priceV_bd h1 h2 k
      have Hs := Lib.hid (apartTo_succ U V k q)
      generalize U[q]?.getD 0 = x at *
      generalize V[q]?.getD 0 = y at *
      have hqV : q < V.length := by omega
      have hw : IntKind.i64.wrap (apartTo U V k q + priceV x y k) = apartTo U V k q + priceV x y k := IntWalk.i64_in _ (by omega)
      go_wp2_with fail
      refine wp_region_ext (by kernel_rfl) (by kernel_rfl) ?_
      repeat (go_big_quiet_step ((go_at_call 101; exact quiet_same (f101_c x y k _ h1 h2 Hk.out))))
      refine wpQuiet_nil ?_
      intro w3 hE4
      clear hw
      go_wp2_with fail
      go_roundw
      case rel => exact ⟨q + 1, by omega, by go_num, by rw [Hs.out], hE3.trans' hE4⟩
      case measure => simp [intOf]; omega
    · obtain rfl : q = U.length := by omega
      go_wp2_with fail
      go_ret
      exact ⟨rfl, (hE1.trans' hE2).trans' hE3⟩

set_option maxHeartbeats 1000000 in
theorem f30_c (a a2 : Option Addr) (n c n2 c2 : Nat) (l m : List Atom) (k : Int) (w : World) (hl : Atoms w a l) (hn : l.length = n) (hlen : n ≤ 140737488355328) (hm : Atoms w a2 m) (hn2 : m.length = n2) (hlen2 : n2 ≤ 140737488355328) :
    Calls Try.prog 30 #[.slice a n c, .slice a2 n2 c2, .int .i64 k] w fun e w' => e = .returned (.tuple #[.int .i64 (apartV l m k), .int .i64 (apartErr l m k)]) ∧ Ext w w' := by
  go_enter Try.func30, Try.ntmps30
  go_wp2_with fail
  refine (f60_c a a2 n c n2 c2 l m _ hl hn hlen hm hn2 hlen2).mono ?_
  rintro e w1 ⟨rfl, hE1⟩
  by_cases h1 : pairErr l m = 0
  · rw [h1]
    have H1 := Lib.hid h1
    clear h1
    go_wp2_with fail
    refine (f74_c k _).mono ?_
    rintro e w2 ⟨rfl, rfl⟩
    rcases Bool.eq_false_or_eq_true (kindB k) with h2 | h2
    · rw [h2]
      have H2 := Lib.hid h2
      clear h2
      go_wp2_with fail
      refine (f75_c a a2 n c n2 c2 l m k _ (hl.ext hE1) hn (hm.ext hE1) hn2 (pair_fine H1.out) (kind_or H2.out)).mono ?_
      rintro e w2 ⟨rfl, hE2⟩
      go_wp2_with fail
      go_ret2
      have e1 : apartErr l m k = 0 := by unfold apartErr; rw [H1.out, H2.out]; simp
      exact ⟨ret_ii (by rw [apartV, if_pos e1]) e1.symm, hE1.trans' hE2⟩
    · rw [h2]
      have H2 := Lib.hid h2
      clear h2
      go_wp2_with fail
      go_ret2
      have e1 : apartErr l m k = 1 := by unfold apartErr; rw [H1.out, H2.out]; simp
      exact ⟨ret_ii (by rw [apartV, if_neg (by rw [e1]; omega)]) e1.symm, hE1⟩
  · have hb : (pairErr l m != 0) = true := by simp [h1]
    have H1 := Lib.hid h1
    clear h1
    go_wp2_with fail
    go_ret2
    have e1 : apartErr l m k = pairErr l m := by unfold apartErr; rw [if_pos H1.out]
    exact ⟨ret_ii (by rw [apartV, if_neg (by rw [e1]; exact H1.out)]) e1.symm, hE1⟩

set_option maxHeartbeats 1000000 in
theorem f31_c (a a2 : Option Addr) (n c n2 c2 : Nat) (l m : List Atom) (k : Int) (w : World) (hl : Atoms w a l) (hn : l.length = n) (hlen : n ≤ 140737488355328) (hm : Atoms w a2 m) (hn2 : m.length = n2) (hlen2 : n2 ≤ 140737488355328) :
    Calls Try.prog 31 #[.slice a n c, .slice a2 n2 c2, .int .i64 k] w fun e w' => e = .returned (.tuple #[.int .i64 (apartV l m k), .int .i64 (apartErr l m k)]) ∧ Ext w w' := by
  go_enter Try.func31, Try.ntmps31
  go_wp2_with fail
  refine (f62_c a a2 n c n2 c2 l m _ hl hn hlen hm hn2 hlen2).mono ?_
  rintro e w1 ⟨rfl, hE1⟩
  by_cases h1 : pairErr l m = 0
  · rw [h1]
    have H1 := Lib.hid h1
    clear h1
    go_wp2_with fail
    refine (f76_c k _).mono ?_
    rintro e w2 ⟨rfl, rfl⟩
    rcases Bool.eq_false_or_eq_true (kindB k) with h2 | h2
    · rw [h2]
      have H2 := Lib.hid h2
      clear h2
      go_wp2_with fail
      refine (f77_c a a2 n c n2 c2 l m k _ (hl.ext hE1) hn (hm.ext hE1) hn2 (pair_fine H1.out) (kind_or H2.out)).mono ?_
      rintro e w2 ⟨rfl, hE2⟩
      go_wp2_with fail
      go_ret2
      have e1 : apartErr l m k = 0 := by unfold apartErr; rw [H1.out, H2.out]; simp
      exact ⟨ret_ii (by rw [apartV, if_pos e1]) e1.symm, hE1.trans' hE2⟩
    · rw [h2]
      have H2 := Lib.hid h2
      clear h2
      go_wp2_with fail
      go_ret2
      have e1 : apartErr l m k = 1 := by unfold apartErr; rw [H1.out, H2.out]; simp
      exact ⟨ret_ii (by rw [apartV, if_neg (by rw [e1]; omega)]) e1.symm, hE1⟩
  · have hb : (pairErr l m != 0) = true := by simp [h1]
    have H1 := Lib.hid h1
    clear h1
    go_wp2_with fail
    go_ret2
    have e1 : apartErr l m k = pairErr l m := by unfold apartErr; rw [if_pos H1.out]
    exact ⟨ret_ii (by rw [apartV, if_neg (by rw [e1]; exact H1.out)]) e1.symm, hE1⟩

set_option maxHeartbeats 2000000 in
theorem f19_c (a a2 : Option Addr) (n c n2 c2 : Nat) (l m : List Atom) (w : World) (hl : Atoms w a l) (hn : l.length = n) (hlen : n ≤ 140737488355328) (hm : Atoms w a2 m) (hn2 : m.length = n2) (hlen2 : n2 ≤ 140737488355328) :
    Calls Try.prog 19 #[.slice a n c, .slice a2 n2 c2] w fun e w' => e = .returned (.tuple #[.bool (beforeB l m), .int .i64 (pairErr l m)]) ∧ Ext w w' := by
  go_enter Try.func19, Try.ntmps19
  go_wp2_with fail
  refine (f60_c a a2 n c n2 c2 l m _ hl hn hlen hm hn2 hlen2).mono ?_
  rintro e w0 ⟨rfl, hE0⟩
  by_cases h1 : pairErr l m = 0
  · have e0 : beforeB l m = leU (unitsL l) (unitsL m) := by unfold beforeB; rw [h1]; simp
    rw [h1]
    obtain ⟨hF, hG, ht⟩ := pair_fine h1
    have He0 := Lib.hid e0
    have Hp := Lib.hid h1
    clear h1 e0
    have hUV := units_eq hF hG ht
    have hU40 := units_40 hF
    have H1 := Lib.hid (fun W (h : Atoms W a l) => f61_c a n c l W h hn hF)
    have H2 := Lib.hid (fun W (h : Atoms W a2 m) => f61_c a2 n2 c2 m W h hn2 hG)
    generalize unitsL l = U at *
    generalize unitsL m = V at *
    clear ht hF hG
    go_wp2_with fail
    refine (H2.out _ (hm.ext hE0)).mono ?_
    rintro e w1 ⟨b2, d2, rfl, hI2, hE1⟩
    go_wp2_with fail
    refine (H1.out _ (hl.ext (hE0.trans' hE1))).mono ?_
    rintro e w2 ⟨b1, d1, rfl, hI1, hE2⟩
    have hI2 := hI2.ext hE2
    clear H1 H2
    go_wp2_with fail
    go_loopw [21] (fun i wr => ∃ q : Nat, q ≤ U.length ∧ i = .int .i64 q ∧ Hid (∀ j, j < q → U[j]?.getD 0 ≤ V[j]?.getD 0) ∧ Ext w2 wr) (fun i _ => U.length - (intOf i).toNat)
    case atStart => exact ⟨0, Nat.zero_le _, rfl, fun j hj => by omega, Below.refl _ _⟩
    case round =>
      obtain ⟨q, hq, rfl, H, hE3⟩ := hrel
      by_cases hlt : q < U.length
      · obtain ⟨b, off, rfl, hb, hc⟩ := hI1.ext hE3 q hlt
        obtain ⟨b', off', rfl, hb', hc'⟩ := hI2.ext hE3 q (by omega)
        have hqV : q < V.length := by omega
        by_cases hle : U[q]?.getD 0 ≤ V[q]?.getD 0
        · have hd : decide (V[q]?.getD 0 < U[q]?.getD 0) = false := by simp; omega
          have Hle := Lib.hid hle
          generalize hx : U[q]?.getD 0 = x at *
          generalize hy : V[q]?.getD 0 = y at *
          have Hx := Lib.hid hx
          have Hy := Lib.hid hy
          clear hx hy
          go_wp2_with fail
          go_roundw
          case rel =>
            refine ⟨q + 1, by omega, by go_num, fun j hj => ?_, hE3⟩
            by_cases e : j = q
            · rw [e, Hx.out, Hy.out]; exact Hle.out
            · exact H.out j (by omega)
          case measure => simp [intOf]; omega
        · have Hle := Lib.hid (leU_no hlt (Int.not_le.1 hle))
          have hd : decide (V[q]?.getD 0 < U[q]?.getD 0) = true := by simp; omega
          generalize U[q]?.getD 0 = x at *
          generalize V[q]?.getD 0 = y at *
          go_wp2_with fail
          go_ret2
          exact ⟨ret_bi (by rw [He0.out, Hle.out]) Hp.out.symm, (hE0.trans' (hE1.trans' hE2)).trans' (hE3)⟩
      · obtain rfl : q = U.length := by omega
        go_wp2_with fail
        go_ret2
        exact ⟨ret_bi (by rw [He0.out, leU_yes H.out]) Hp.out.symm, (hE0.trans' (hE1.trans' hE2)).trans' hE3⟩
  · have hb : (pairErr l m != 0) = true := by simp [h1]
    have e0 : beforeB l m = false := by unfold beforeB; rw [decide_eq_false h1]; rfl
    have He0 := Lib.hid e0
    clear h1 e0
    go_wp2_with fail
    go_ret2
    exact ⟨ret_bi He0.out.symm rfl, hE0⟩

set_option maxHeartbeats 2000000 in
theorem f20_c (a a2 : Option Addr) (n c n2 c2 : Nat) (l m : List Atom) (w : World) (hl : Atoms w a l) (hn : l.length = n) (hlen : n ≤ 140737488355328) (hm : Atoms w a2 m) (hn2 : m.length = n2) (hlen2 : n2 ≤ 140737488355328) :
    Calls Try.prog 20 #[.slice a n c, .slice a2 n2 c2] w fun e w' => e = .returned (.tuple #[.bool (beforeB l m), .int .i64 (pairErr l m)]) ∧ Ext w w' := by
  go_enter Try.func20, Try.ntmps20
  go_wp2_with fail
  refine (f62_c a a2 n c n2 c2 l m _ hl hn hlen hm hn2 hlen2).mono ?_
  rintro e w0 ⟨rfl, hE0⟩
  by_cases h1 : pairErr l m = 0
  · have e0 : beforeB l m = leU (unitsL l) (unitsL m) := by unfold beforeB; rw [h1]; simp
    rw [h1]
    obtain ⟨hF, hG, ht⟩ := pair_fine h1
    have He0 := Lib.hid e0
    have Hp := Lib.hid h1
    clear h1 e0
    have hUV := units_eq hF hG ht
    have hU40 := units_40 hF
    have H1 := Lib.hid (fun W (h : Atoms W a l) => f63_c a n c l W h hn hF)
    have H2 := Lib.hid (fun W (h : Atoms W a2 m) => f63_c a2 n2 c2 m W h hn2 hG)
    generalize unitsL l = U at *
    generalize unitsL m = V at *
    clear ht hF hG
    go_wp2_with fail
    refine (H1.out _ (hl.ext hE0)).mono ?_
    rintro e w1 ⟨b1, d1, rfl, hI1, hE1⟩
    go_wp2_with fail
    refine (H2.out _ (hm.ext (hE0.trans' hE1))).mono ?_
    rintro e w2 ⟨b2, d2, rfl, hI2, hE2⟩
    have hI1 := hI1.ext hE2
    clear H1 H2
    go_wp2_with fail
    go_loopw [9] (fun i wr => ∃ q : Nat, q ≤ U.length ∧ i = .int .i64 q ∧ Hid (∀ j, j < q → U[j]?.getD 0 ≤ V[j]?.getD 0) ∧ Ext w2 wr) (fun i _ => U.length - (intOf i).toNat)
    case atStart => exact ⟨0, Nat.zero_le _, rfl, fun j hj => by omega, Below.refl _ _⟩
    case round =>
      obtain ⟨q, hq, rfl, H, hE3⟩ := hrel
      by_cases hlt : q < U.length
      · obtain ⟨b, off, rfl, hb, hc⟩ := hI1.ext hE3 q hlt
        obtain ⟨b', off', rfl, hb', hc'⟩ := hI2.ext hE3 q (by omega)
        have hqV : q < V.length := by omega
        by_cases hle : U[q]?.getD 0 ≤ V[q]?.getD 0
        · have hd : decide (V[q]?.getD 0 < U[q]?.getD 0) = false := by simp; omega
          have Hle := Lib.hid hle
          generalize hx : U[q]?.getD 0 = x at *
          generalize hy : V[q]?.getD 0 = y at *
          have Hx := Lib.hid hx
          have Hy := Lib.hid hy
          clear hx hy
          go_wp2_with fail
          refine wp_region_ext (by kernel_rfl) (by kernel_rfl) ?_
          repeat (go_big_quiet_step (fail))
          refine wpQuiet_nil ?_
          intro w3 hE4
          go_wp2_with fail
          go_roundw
          case rel =>
            refine ⟨q + 1, by omega, by go_num, fun j hj => ?_, hE3.trans' hE4⟩
            by_cases e : j = q
            · rw [e, Hx.out, Hy.out]; exact Hle.out
            · exact H.out j (by omega)
          case measure => simp [intOf]; omega
        · have Hle := Lib.hid (leU_no hlt (Int.not_le.1 hle))
          have hd : decide (V[q]?.getD 0 < U[q]?.getD 0) = true := by simp; omega
          generalize U[q]?.getD 0 = x at *
          generalize V[q]?.getD 0 = y at *
          go_wp2_with fail
          refine wp_region_ext (by kernel_rfl) (by kernel_rfl) ?_
          repeat (go_big_quiet_step (fail))
          refine wpQuiet_nil ?_
          intro w3 hE4
          go_wp2_with fail
          go_ret2
          exact ⟨ret_bi (by rw [He0.out, Hle.out]) Hp.out.symm, (hE0.trans' (hE1.trans' hE2)).trans' (hE3.trans' hE4)⟩
      · obtain rfl : q = U.length := by omega
        go_wp2_with fail
        go_ret2
        exact ⟨ret_bi (by rw [He0.out, leU_yes H.out]) Hp.out.symm, (hE0.trans' (hE1.trans' hE2)).trans' hE3⟩
  · have hb : (pairErr l m != 0) = true := by simp [h1]
    have e0 : beforeB l m = false := by unfold beforeB; rw [decide_eq_false h1]; rfl
    have He0 := Lib.hid e0
    clear h1 e0
    go_wp2_with fail
    go_ret2
    exact ⟨ret_bi He0.out.symm rfl, hE0⟩

theorem und66 : Try.prog.underlying 66 = some (.struct (Try.prog.fieldsOf 66)) := by kernel_rfl
theorem stood66 : Try.prog.stoodInHeld 66 = false := by kernel_rfl
theorem guard66 : Try.prog.eqGuardType Try.prog.depth 66 = false := by kernel_rfl
def sameB (s t : Atom) : Bool := s.p == t.p && s.m == t.m
theorem sameB_iff {s t : Atom} : sameB s t = true ↔ s = t := by cases s; cases t; simp [sameB]
def diffB (s t : Atom) : Bool := !sameB s t
theorem neq_atom (w : World) (s t : Atom) : (binOp .neq 66 (.agg #[.int .i64 s.p, .int .i64 s.m]) (.agg #[.int .i64 t.p, .int .i64 t.m])).run Try.prog w = .ok (.bool (diffB s t)) w := by
  simp only [run_neq_struct, run_equalIn_agg _ _ _ _ _ und66 stood66]
  have hf : (Try.prog.fieldsOf 66).toList = (match Try.prog.underlying 66 with | some (.struct fs) => fs.toList | _ => []) := by kernel_rfl
  rw [hf, Try.underlying66]
  simp [Op.eqFields, go_sem, sameB, diffB]
  by_cases h1 : s.p = t.p <;> by_cases h2 : s.m = t.m <;> simp [h1, h2]

set_option maxHeartbeats 1000000 in
theorem f21_c (a b : Option Addr) (n m c d : Nat) (l k : List Atom) (w : World) (hl : Atoms w a l) (hk : Atoms w b k) (hn : l.length = n) (hm : k.length = m) (hn1 : n ≤ 140737488355328) (hm1 : m ≤ 140737488355328) :
    Calls Try.prog 21 #[.slice a n c, .slice b m d] w fun e w' => e = .returned (.bool (decide (l = k))) ∧ Ext w w' := by
  subst hn hm
  by_cases hlen : l.length = k.length
  · have hne : ((l.length : Int) != (k.length : Int)) = false := by simp [hlen]
    have Hlen := Lib.hid hlen
    clear hlen
    go_enter Try.func21, Try.ntmps21
    go_wp2_with fail
    go_loopw [5] (fun i wr => ∃ j : Nat, j ≤ l.length ∧ i = .int .i64 j ∧ Ext w wr ∧ Hid (∀ q, q < j → l[q]? = k[q]?)) (fun i _ => l.length - (intOf i).toNat)
    case atStart => exact ⟨0, by omega, rfl, Below.refl _ _, fun q hq => by omega⟩
    case round =>
      obtain ⟨j, hj, rfl, hE, H⟩ := hrel
      by_cases hlt : j < l.length
      · have hlt2 : j < k.length := by rw [← Hlen.out]; exact hlt
        obtain ⟨b1, o1, rfl, hb1, x1, y1⟩ := hl.ext hE j hlt
        obtain ⟨b2, o2, rfl, hb2, x2, y2⟩ := hk.ext hE j hlt2
        by_cases he : sameB l[j] k[j] = true
        · have He := Lib.hid (sameB_iff.1 he)
          have hb : diffB l[j] k[j] = false := by simp [diffB, he]
          clear he
          have hg := guard66
          have hq := fun W => neq_atom W l[j] k[j]
          go_wp2_with fail
          refine wp_region_ext (by kernel_rfl) (by kernel_rfl) ?_
          repeat (go_big_quiet_step (fail))
          refine wpQuiet_nil ?_
          intro w1 hE1
          clear hq hg
          go_wp2_with fail
          go_roundw
          case rel =>
            refine ⟨j + 1, by omega, by go_num, hE.trans' hE1, fun q hq => ?_⟩
            by_cases e : q = j
            · subst e; rw [List.getElem?_eq_getElem hlt, List.getElem?_eq_getElem hlt2, He.out]
            · exact H.out q (by omega)
          case measure => simp [intOf]; omega
        · have hb : diffB l[j] k[j] = true := by simpa [diffB] using he
          have He := Lib.hid he
          clear he
          have hg := guard66
          have hq := fun W => neq_atom W l[j] k[j]
          go_wp2_with fail
          refine wp_region_ext (by kernel_rfl) (by kernel_rfl) ?_
          repeat (go_big_quiet_step (fail))
          refine wpQuiet_nil ?_
          intro w1 hE1
          clear hq hg
          go_wp2_with fail
          go_ret
          exact ⟨ret_bool (by symm; rw [decide_eq_false_iff_not]; intro e; subst e; exact He.out (sameB_iff.2 rfl)), hE.trans' hE1⟩
      · obtain rfl : j = l.length := by omega
        go_wp2_with fail
        go_ret
        refine ⟨ret_bool ?_, hE⟩
        symm; rw [decide_eq_true_eq]
        refine List.ext_getElem Hlen.out fun q h1 h2 => ?_
        have := H.out q h1
        rw [List.getElem?_eq_getElem h1, List.getElem?_eq_getElem h2] at this
        simpa using this
  · have hne : ((l.length : Int) != (k.length : Int)) = true := by simp; omega
    have Hlen := Lib.hid hlen
    clear hlen
    go_enter Try.func21, Try.ntmps21
    go_wp2_with fail
    go_ret
    exact ⟨ret_bool (by symm; rw [decide_eq_false_iff_not]; intro e; subst e; exact Hlen.out rfl), Below.refl _ _⟩

end Go.Proofs.Ytgnjaapjaglleaa
