/- Contracts: shared, of the program and of the reference. -/
import Derived.Test.YtodlbgncdggimaaP7
import Derived.Test.YtodlbgncdggimaaT31
import Derived.Test.YtodlbgncdggimaaT27
namespace Go.Proofs.Ytodlbgncdggimaa
open Go.RowKit
attribute [local go_sem] GW.cell

theorem shared_yes {l : List Site} {x y : Int} {S : List Int} (h1 : okField l x y = true) (h2 : S.length = l.length) (h3 : ∀ j, j < S.length → 0 ≤ S[j]?.getD 0) (h4 : S.sum = x * y) : okShared l x y S = true :=
  shared_spec.2 ⟨h1, h2, fun j hj => by have := h3 j hj; rwa [List.getElem?_eq_getElem hj, Option.getD_some] at this, h4⟩

set_option maxHeartbeats 2000000 in
theorem f80_c (a b : Option Addr) (n c m d : Nat) (l : List Site) (S : List Int) (x y : Int) (w : World) (hl : Sites w a l) (hS : Ints w b S) (hn : l.length = n) (hm : S.length = m) (hlen : n ≤ 140737488355328) (hlm : m ≤ 140737488355328) :
    Calls Try.prog 80 #[.slice a n c, .int .i64 x, .int .i64 y, .slice b m d] w fun e w' => e = .returned (.int .i64 (errOf (okShared l x y S))) ∧ Ext w w' := by
  subst hn hm
  have hc := f55_c a l.length c l x y w hl rfl hlen
  rcases errOf_cases2 (okField l x y) with ⟨hok, he⟩ | ⟨hok, he⟩
  · rw [he] at hc
    obtain ⟨_, h1, h2, h3, h4⟩ := okField_bd hok
    have hp := prod_bd h1 h2 h3 h4
    have Hc := Lib.hid hc
    have Hok := Lib.hid hok
    by_cases hq : S.length = l.length
    · have hne : ((S.length : Int) != (l.length : Int)) = false := by simp [hq]
      have Hq := Lib.hid hq
      clear hc he hok hq
      go_enter Try.func80, Try.ntmps80
      go_wp2_with fail
      refine Hc.out.mono ?_
      rintro e w1 ⟨rfl, hE1⟩
      clear Hc
      go_wp2_with fail
      go_loopw [10, 12, 30] (fun v _ i wr => ∃ k : Nat, k ≤ S.length ∧ i = .int .i64 k ∧ v = .int .i64 (x * y - (S.take k).sum) ∧ Ext w wr ∧ 0 ≤ x * y - (S.take k).sum ∧ x * y - (S.take k).sum ≤ 144 ∧ Hid (∀ j, j < k → 0 ≤ S[j]?.getD 0)) (fun _ _ i _ => S.length - (intOf i).toNat)
      case atStart => exact ⟨0, by omega, rfl, by simp, hE1, by simp; omega, by simp; omega, fun j hj => by omega⟩
      case round =>
        obtain ⟨k, hk, rfl, rfl, hE, hl0, hl1, H⟩ := hrel
        generalize hlf : x * y - (S.take k).sum = lf at *
        have Hlf := Lib.hid hlf
        clear hlf
        by_cases hlt : k < S.length
        · obtain ⟨b1, o1, rfl, hb1, hc1⟩ := hS.ext hE k hlt
          rw [List.getElem?_eq_getElem hlt, Option.getD_some] at hc1
          by_cases hneg : S[k] < 0
          · have d1 : decide (S[k] < 0) = true := by simpa using hneg
            have Hno := Lib.hid (shared_neg (l := l) (x := x) (y := y) hlt hneg)
            clear hneg
            go_wp2_with fail
            go_ret
            exact ⟨ret_int (by rw [Hno.out]; rfl), hE⟩
          · have d1 : decide (S[k] < 0) = false := by simpa using hneg
            by_cases hov : lf < S[k]
            · have d2 : decide (lf < S[k]) = true := by simpa using hov
              have Hno := Lib.hid (shared_over (l := l) (x := x) (y := y) hlt (by rw [Hlf.out]; exact hov))
              clear hov hneg
              go_wp2_with fail
              go_ret
              exact ⟨ret_int (by rw [Hno.out]; rfl), hE⟩
            · have d2 : decide (lf < S[k]) = false := by simpa using hov
              have Hs := Lib.hid (sum_take_succ hlt)
              have Hng := Lib.hid hneg
              have hb1 : 0 ≤ S[k] := by omega
              have hb2 : S[k] ≤ lf := by omega
              clear hov hneg
              go_wp2_with fail
              go_roundw
              case rel =>
                have e := Hs.out
                have e2 := Hlf.out
                refine ⟨k + 1, by omega, by go_num, by congr 1; omega, hE, by omega, by omega, fun j hj => ?_⟩
                by_cases ej : j = k
                · subst ej; rw [List.getElem?_eq_getElem hlt, Option.getD_some]; exact hb1
                · exact H.out j (by omega)
              case measure => simp [intOf]; omega
        · obtain rfl : k = S.length := by omega
          have Ht := Lib.hid (show (S.take S.length).sum = S.sum by rw [List.take_length])
          by_cases hz : 0 < lf
          · have d1 : decide (0 < lf) = true := by simpa using hz
            have Hno := Lib.hid (shared_sum (l := l) (x := x) (y := y) (S := S) (by have := Hlf.out; have := Ht.out; omega))
            clear hz
            go_wp2_with fail
            go_ret
            exact ⟨ret_int (by rw [Hno.out]; rfl), hE⟩
          · have d1 : decide (0 < lf) = false := by simpa using hz
            have Hyes := Lib.hid (shared_yes Hok.out Hq.out H.out (by have := Hlf.out; have := Ht.out; omega))
            clear hz
            go_wp2_with fail
            go_ret
            exact ⟨ret_int (by rw [Hyes.out]; rfl), hE⟩
    · have hne : ((S.length : Int) != (l.length : Int)) = true := by simp; omega
      have Hno := Lib.hid (shared_len (x := x) (y := y) hq)
      clear hc he hok hq
      go_enter Try.func80, Try.ntmps80
      go_wp2_with fail
      refine Hc.out.mono ?_
      rintro e w1 ⟨rfl, hE1⟩
      clear Hc
      go_wp2_with fail
      go_ret
      exact ⟨ret_int (by rw [Hno.out]; rfl), hE1⟩
  · rw [he] at hc
    have Hc := Lib.hid hc
    have Hno := Lib.hid (shared_field (S := S) hok)
    clear hc he hok
    go_enter Try.func80, Try.ntmps80
    go_wp2_with fail
    refine Hc.out.mono ?_
    rintro e w1 ⟨rfl, hE1⟩
    clear Hc
    go_wp2_with fail
    go_ret
    exact ⟨ret_int (by rw [Hno.out]; rfl), hE1⟩

theorem within_no {n a b : Int} (h : withinB n a b = false) : n < a ∨ b < n := by
  simp [withinB] at h; omega
theorem within_yes {n a b : Int} (h : withinB n a b = true) : a ≤ n ∧ n ≤ b := by
  simpa [withinB] using h

theorem take_small {S : List Int} (h : ∀ j, j < S.length → 0 ≤ S[j]?.getD 0 ∧ S[j]?.getD 0 ≤ 144) : ∀ k, k ≤ S.length → 0 ≤ (S.take k).sum ∧ (S.take k).sum ≤ 144 * k
  | 0, _ => by simp
  | k + 1, hk => by
    have h1 := take_small h k (by omega)
    have h2 := h k (by omega)
    rw [List.getElem?_eq_getElem (by omega), Option.getD_some] at h2
    rw [sum_take_succ (by omega)]; omega

set_option maxHeartbeats 2000000 in
theorem f83_c (a b : Option Addr) (n c m d : Nat) (l : List Site) (S : List Int) (x y : Int) (w : World) (hl : Sites w a l) (hS : Ints w b S) (hn : l.length = n) (hm : S.length = m) (hlen : n ≤ 140737488355328) (hlm : m ≤ 140737488355328) :
    Calls Try.prog 83 #[.slice a n c, .int .i64 x, .int .i64 y, .slice b m d] w fun e w' => e = .returned (.int .i64 (errOf (okShared l x y S))) ∧ Ext w w' := by
  subst hn hm
  have hc := f23_c a l.length c l w hl rfl hlen
  rcases Bool.eq_false_or_eq_true (okSites l) with hok | hok
  · have he : errOf (okSites l) = 0 := by rw [hok]; rfl
    rw [he] at hc
    have Hc := Lib.hid hc
    have hl5 := okSites_len hok
    rcases Bool.eq_false_or_eq_true (withinB x 1 12 && withinB y 1 12) with hw | hw
    · have hF : okField l x y = true := by rw [field_split, hok, hw]; rfl
      obtain ⟨_, h1, h2, h3, h4⟩ := okField_bd hF
      have hp := prod_bd h1 h2 h3 h4
      have Hw := Lib.hid hw
      have HF := Lib.hid hF
      by_cases hq : S.length = l.length
      · have hne : ((S.length : Int) != (l.length : Int)) = false := by simp [hq]
        have Hq := Lib.hid hq
        have hS5 : S.length ≤ 5 := by omega
        clear hc he hok hw hF hq
        go_enter Try.func83, Try.ntmps83
        go_wp2_with fail
        refine Hc.out.mono ?_
        rintro e w1 ⟨rfl, rfl⟩
        clear Hc
        go_wp2_with fail
        refine (f69_c x y _).mono ?_
        rintro e w1 ⟨rfl, rfl⟩
        rw [Hw.out]
        go_wp2_with fail
        go_loopw [10] (fun i wr => ∃ k : Nat, k ≤ S.length ∧ i = .int .i64 k ∧ Ext w wr ∧ Hid (∀ j, j < k → 0 ≤ S[j]?.getD 0 ∧ S[j]?.getD 0 ≤ x * y)) (fun i _ => S.length - (intOf i).toNat)
        case atStart => exact ⟨0, by omega, rfl, Below.refl _ _, fun j hj => by omega⟩
        case round =>
          obtain ⟨k, hk, rfl, hE, H⟩ := hrel
          by_cases hlt : k < S.length
          · obtain ⟨b1, o1, rfl, hb1, hc1⟩ := hS.ext hE k hlt
            rw [List.getElem?_eq_getElem hlt, Option.getD_some] at hc1
            cases hi : withinB S[k] 0 (x * y) with
            | true =>
              have Hi := Lib.hid hi
              clear hi
              go_wp2_with fail
              refine (f60_c _ _ _ _).mono ?_
              rintro e w1 ⟨rfl, rfl⟩
              rw [Hi.out]
              go_wp2_with fail
              go_roundw
              case rel =>
                refine ⟨k + 1, by omega, by go_num, hE, fun j hj => ?_⟩
                by_cases e : j = k
                · subst e; rw [List.getElem?_eq_getElem hlt, Option.getD_some]; exact within_yes Hi.out
                · exact H.out j (by omega)
              case measure => simp [intOf]; omega
            | false =>
              have Hi := Lib.hid hi
              clear hi
              go_wp2_with fail
              refine (f60_c _ _ _ _).mono ?_
              rintro e w1 ⟨rfl, rfl⟩
              rw [Hi.out]
              go_wp2_with fail
              go_ret
              refine ⟨ret_int ?_, hE⟩
              rcases within_no Hi.out with h | h
              · rw [shared_neg hlt h]; rfl
              · rw [shared_big hlt h]; rfl
          · obtain rfl : k = S.length := by omega
            have hts := take_small (S := S) (fun j hj => by have := H.out j hj; omega)
            by_cases hz : S.sum = x * y
            · have d1 : (S.sum != x * y) = false := by simpa using hz
              have Hyes := Lib.hid (shared_yes HF.out Hq.out (fun j hj => (H.out j hj).1) hz)
              clear hz
              go_wp2_with fail
              refine (f48_c b S.length d S _ (hS.ext hE) rfl (by omega) (fun k hk => by have := hts k hk; omega)).mono ?_
              rintro e w2 ⟨rfl, hE2⟩
              clear hts
              go_wp2_with fail
              go_ret
              exact ⟨ret_int (by rw [Hyes.out]; rfl), hE.trans' hE2⟩
            · have d1 : (S.sum != x * y) = true := by simpa using hz
              have Hno := Lib.hid (shared_sum (l := l) hz)
              clear hz
              go_wp2_with fail
              refine (f48_c b S.length d S _ (hS.ext hE) rfl (by omega) (fun k hk => by have := hts k hk; omega)).mono ?_
              rintro e w2 ⟨rfl, hE2⟩
              clear hts
              go_wp2_with fail
              go_ret
              exact ⟨ret_int (by rw [Hno.out]; rfl), hE.trans' hE2⟩
      · have hne : ((S.length : Int) != (l.length : Int)) = true := by simp; omega
        have Hno := Lib.hid (shared_len (x := x) (y := y) hq)
        clear hc he hok hw hF hq
        go_enter Try.func83, Try.ntmps83
        go_wp2_with fail
        refine Hc.out.mono ?_
        rintro e w1 ⟨rfl, rfl⟩
        clear Hc
        go_wp2_with fail
        refine (f69_c x y _).mono ?_
        rintro e w1 ⟨rfl, rfl⟩
        rw [Hw.out]
        go_wp2_with fail
        go_ret
        exact ⟨ret_int (by rw [Hno.out]; rfl), Below.refl _ _⟩
    · have hF : okField l x y = false := by rw [field_split, hw]; simp
      have Hw := Lib.hid hw
      have Hno := Lib.hid (shared_field (S := S) hF)
      clear hc he hok hw hF
      go_enter Try.func83, Try.ntmps83
      go_wp2_with fail
      refine Hc.out.mono ?_
      rintro e w1 ⟨rfl, rfl⟩
      clear Hc
      go_wp2_with fail
      refine (f69_c x y _).mono ?_
      rintro e w1 ⟨rfl, rfl⟩
      rw [Hw.out]
      go_wp2_with fail
      go_ret
      exact ⟨ret_int (by rw [Hno.out]; rfl), Below.refl _ _⟩
  · have he : errOf (okSites l) = 1 := by rw [hok]; rfl
    rw [he] at hc
    have hF : okField l x y = false := by rw [field_split, hok]; rfl
    have Hc := Lib.hid hc
    have Hno := Lib.hid (shared_field (S := S) hF)
    clear hc he hok hF
    go_enter Try.func83, Try.ntmps83
    go_wp2_with fail
    refine Hc.out.mono ?_
    rintro e w1 ⟨rfl, rfl⟩
    clear Hc
    go_wp2_with fail
    go_ret
    exact ⟨ret_int (by rw [Hno.out]; rfl), Below.refl _ _⟩
end Go.Proofs.Ytodlbgncdggimaa
