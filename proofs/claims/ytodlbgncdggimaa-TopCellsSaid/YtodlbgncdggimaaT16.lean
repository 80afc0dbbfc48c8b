/- Contracts of the reference: owned, power, least. -/
import Derived.Test.YtodlbgncdggimaaT15
import Derived.Test.YtodlbgncdggimaaP1
namespace Go.Proofs.Ytodlbgncdggimaa
open Go.RowKit
attribute [local go_sem] GW.cell

theorem field_split (l : List Site) (x y : Int) : okField l x y = (okSites l && (withinB x 1 12 && withinB y 1 12)) := rfl

set_option maxHeartbeats 1000000 in
theorem f65_c (a b : Option Addr) (n c m d : Nat) (l : List Site) (O : List Int) (x y : Int) (w : World) (hl : Sites w a l) (hO : Ints w b O) (hn : l.length = n) (hm : O.length = m) (hlen : n ≤ 140737488355328) (hlm : m ≤ 140737488355328) :
    Calls Try.prog 65 #[.slice a n c, .int .i64 x, .int .i64 y, .slice b m d] w fun e w' => e = .returned (.int .i64 (errOf (okOwned l x y O))) ∧ Ext w w' := by
  subst hn hm
  have hc := f23_c a l.length c l w hl rfl hlen
  rcases Bool.eq_false_or_eq_true (okSites l) with hok | hok
  · have he : errOf (okSites l) = 0 := by rw [hok]; rfl
    rw [he] at hc
    have Hc := Lib.hid hc
    have Hf := Lib.hid (field_split l x y)
    have hl5 := okSites_len hok
    rcases Bool.eq_false_or_eq_true (withinB x 1 12 && withinB y 1 12) with hw | hw
    · have hF : okField l x y = true := by rw [field_split, hok, hw]; rfl
      obtain ⟨_, h1, h2, h3, h4⟩ := okField_bd hF
      have hp := prod_bd h1 h2 h3 h4
      have Hw := Lib.hid hw
      have HF := Lib.hid hF
      by_cases hq : (O.length : Int) = x * y
      · have hne : ((O.length : Int) != x * y) = false := by simp [hq]
        have Hq := Lib.hid hq
        clear hc he hok hw hF hq
        go_enter Try.func65, Try.ntmps65
        go_wp2_with fail
        refine Hc.out.mono ?_
        rintro e w1 ⟨rfl, rfl⟩
        clear Hc
        go_wp2_with fail
        refine (f69_c x y _).mono ?_
        rintro e w1 ⟨rfl, rfl⟩
        rw [Hw.out]
        go_wp2_with fail
        go_loopw [10] (fun i wr => ∃ k : Nat, k ≤ O.length ∧ i = .int .i64 k ∧ Ext w wr ∧ Hid (∀ j, j < k → isNo l (O[j]?.getD 0) = true)) (fun i _ => O.length - (intOf i).toNat)
        case atStart => exact ⟨0, by omega, rfl, Below.refl _ _, fun j hj => by omega⟩
        case round =>
          obtain ⟨k, hk, rfl, hE, H⟩ := hrel
          by_cases hlt : k < O.length
          · obtain ⟨b1, o1, rfl, hb1, hc1⟩ := hO.ext hE k hlt
            have HP := Lib.hid (owned_no (l := l) (x := x) (y := y) (O := O))
            have hat : ∀ v : Bool, isNo l O[k] = v → withinB (O[k]?.getD 0) 0 ((l.length : Int) - 1) = v := fun v h => by rw [List.getElem?_eq_getElem hlt, Option.getD_some]; exact h
            cases hi : isNo l O[k] with
            | true =>
              have Hi := Lib.hid (hat true hi)
              have Hi2 := Lib.hid hi
              clear hat hi
              generalize hpa : O[k]?.getD 0 = pa at *
              have Hpa := Lib.hid hpa
              clear hpa
              go_wp2_with fail
              refine (f60_c _ _ _ _).mono ?_
              rintro e w1 ⟨rfl, rfl⟩
              rw [Hi.out]
              go_wp2_with fail
              go_roundw
              case rel =>
                refine ⟨k + 1, by omega, by go_num, hE, fun j hj => ?_⟩
                by_cases e : j = k
                · subst e; rw [List.getElem?_eq_getElem hlt]; exact Hi2.out
                · exact H.out j (by omega)
              case measure => simp [intOf]; omega
            | false =>
              have Hi := Lib.hid (hat false hi)
              have Hi2 := Lib.hid hi
              clear hat hi
              generalize hpa : O[k]?.getD 0 = pa at *
              have Hpa := Lib.hid hpa
              clear hpa
              go_wp2_with fail
              refine (f60_c _ _ _ _).mono ?_
              rintro e w1 ⟨rfl, rfl⟩
              rw [Hi.out]
              go_wp2_with fail
              go_ret
              refine ⟨ret_int ?_, hE⟩
              rw [HP.out (by rw [← Bool.not_eq_true, List.all_eq_true]; intro h; have := h _ (List.getElem_mem hlt); rw [Hi2.out] at this; cases this)]; rfl
          · obtain rfl : k = O.length := by omega
            go_wp2_with fail
            go_ret
            refine ⟨ret_int ?_, hE⟩
            rw [owned_yes HF.out Hq.out (List.all_eq_true.2 fun i hi => by
              obtain ⟨j, hj, rfl⟩ := List.getElem_of_mem hi
              have := H.out j hj
              rwa [List.getElem?_eq_getElem hj, Option.getD_some] at this)]; rfl
      · have hne : ((O.length : Int) != x * y) = true := by simp [hq]
        have Hq := Lib.hid hq
        clear hc he hok hw hF hq
        go_enter Try.func65, Try.ntmps65
        go_wp2_with fail
        refine Hc.out.mono ?_
        rintro e w1 ⟨rfl, rfl⟩
        clear Hc
        go_wp2_with fail
        refine (f69_c x y _).mono ?_
        rintro e w1 ⟨rfl, rfl⟩
        rw [Hw.out]
        go_wp2_with fail
        go_ret
        exact ⟨ret_int (by rw [owned_len Hq.out]; rfl), Below.refl _ _⟩
    · have hF : okField l x y = false := by rw [field_split, hw]; simp
      have Hw := Lib.hid hw
      have HF := Lib.hid hF
      clear hc he hok hw hF
      go_enter Try.func65, Try.ntmps65
      go_wp2_with fail
      refine Hc.out.mono ?_
      rintro e w1 ⟨rfl, rfl⟩
      clear Hc
      go_wp2_with fail
      refine (f69_c x y _).mono ?_
      rintro e w1 ⟨rfl, rfl⟩
      rw [Hw.out]
      go_wp2_with fail
      go_ret
      exact ⟨ret_int (by rw [owned_field HF.out]; rfl), Below.refl _ _⟩
  · have he : errOf (okSites l) = 1 := by rw [hok]; rfl
    rw [he] at hc
    have hF : okField l x y = false := by rw [field_split, hok]; rfl
    have Hc := Lib.hid hc
    have HF := Lib.hid hF
    clear hc he hok hF
    go_enter Try.func65, Try.ntmps65
    go_wp2_with fail
    refine Hc.out.mono ?_
    rintro e w1 ⟨rfl, rfl⟩
    clear Hc
    go_wp2_with fail
    go_ret
    exact ⟨ret_int (by rw [owned_field HF.out]; rfl), Below.refl _ _⟩
end Go.Proofs.Ytodlbgncdggimaa
