/- Contract of the reference: ValidateLine. -/
import Derived.Test.YtodlbgncdggimaaT31
namespace Go.Proofs.Ytodlbgncdggimaa
open Go.RowKit
attribute [local go_sem] GW.cell

theorem allIn_of {m : Int} {l : List Int} (h : ∀ k, k < l.length → withinB (l[k]?.getD 0) (-m) m = true) : allIn m l = true :=
  List.all_eq_true.2 fun x hx => by
    obtain ⟨k, hk, rfl⟩ := List.getElem_of_mem hx
    have := h k hk
    rwa [List.getElem?_eq_getElem hk, Option.getD_some] at this
theorem allIn_no {m : Int} {l : List Int} {k : Nat} (hk : k < l.length) (h : withinB (l[k]?.getD 0) (-m) m = false) : allIn m l = false := by
  rw [← Bool.not_eq_true]
  intro h2
  have := List.all_eq_true.1 h2 _ (List.getElem_mem hk)
  rw [List.getElem?_eq_getElem hk, Option.getD_some] at h
  rw [h] at this
  cases this

set_option maxHeartbeats 2000000 in
theorem f44_c (a : Option Addr) (n c : Nat) (l : List Int) (w : World) (hl : Ints w a l) (hn : l.length = n) (hlen : n ≤ 140737488355328) :
    Calls Try.prog 44 #[.slice a n c] w fun e w' => e = .returned (.int .i64 (errOf (okLine l))) ∧ Ext w w' := by
  subst hn
  cases h15 : withinB (l.length : Int) 1 5 with
  | false =>
    have Hno := Lib.hid (okLine_no_len (l := l) (fun h => by have := withinB_iff.2 (show (1 : Int) ≤ (l.length : Int) ∧ (l.length : Int) ≤ 5 by omega); rw [h15] at this; cases this))
    have H15 := Lib.hid h15
    clear h15
    go_enter Try.func44, Try.ntmps44
    go_wp2_with fail
    refine (f60_c _ _ _ _).mono ?_
    rintro e w1 ⟨rfl, rfl⟩
    rw [H15.out]
    go_wp2_with fail
    go_ret
    exact ⟨ret_int (by rw [Hno.out]; rfl), Below.refl _ _⟩
  | true =>
    have hb15 := withinB_iff.1 h15
    have H15 := Lib.hid h15
    clear h15
    go_enter Try.func44, Try.ntmps44
    go_wp2_with fail
    refine (f60_c _ _ _ _).mono ?_
    rintro e w1 ⟨rfl, rfl⟩
    rw [H15.out]
    go_wp2_with fail
    go_loopw [3] (fun i wr => ∃ j : Nat, j ≤ l.length ∧ i = .int .i64 j ∧ Ext w wr ∧ Hid (ascTo l j ∧ ∀ k, k < j → withinB (l[k]?.getD 0) (-30) 30 = true)) (fun i _ => l.length - (intOf i).toNat)
    case atStart => exact ⟨0, by omega, rfl, Below.refl _ _, ⟨fun j h1 h2 => by omega, fun k hk => by omega⟩⟩
    case round =>
      obtain ⟨j, hj, rfl, hE, H⟩ := hrel
      by_cases hlt : j < l.length
      · obtain ⟨b1, o1, rfl, hb1, hc1⟩ := hl.ext hE j hlt
        have hnext : ∀ k, k < j → ∃ b2 o2, (some ⟨b1, o1, none⟩ : Option Addr) = some ⟨b2, o2, none⟩ ∧ b2 < wr.heap.size ∧ wr.cell? ⟨b2, o2 + k, none⟩ = some (.int .i64 (l[k]?.getD 0)) := fun k hk => hl.ext hE k (by omega)
        generalize hp : l[j]?.getD 0 = p at *
        have Hp := Lib.hid hp
        cases hw : withinB p (-30) 30 with
        | false =>
          have Hw := Lib.hid hw
          have Hno := Lib.hid (okLine_no_in (allIn_no hlt (by rw [hp]; exact hw)))
          clear hw hp hnext
          go_wp2_with fail
          refine wp_region_ext (by kernel_rfl) (by kernel_rfl) ?_
          go_big_quiet_step (fail)
          go_big_quiet_step (fail)
          go_big_quiet_step (fail)
          go_big_quiet_step (fail)
          go_big_quiet_step ((go_at_call 60; exact quiet_same (f60_c _ _ _ _)))
          rw [Hw.out]
          repeat (go_big_quiet_step (fail))
          refine wpQuiet_nil ?_
          intro w1 hE1
          go_wp2_with fail
          go_ret
          exact ⟨ret_int (by rw [Hno.out]; rfl), hE.trans' hE1⟩
        | true =>
          have Hw := Lib.hid hw
          by_cases h0 : j = 0
          · subst h0
            simp only [Nat.add_zero] at hc1
            clear hw hp hnext
            go_wp2_with fail
            refine wp_region_ext (by kernel_rfl) (by kernel_rfl) ?_
            go_big_quiet_step (fail)
            go_big_quiet_step (fail)
            go_big_quiet_step (fail)
            go_big_quiet_step (fail)
            go_big_quiet_step ((go_at_call 60; exact quiet_same (f60_c _ _ _ _)))
            rw [Hw.out]
            repeat (go_big_quiet_step (fail))
            refine wpQuiet_nil ?_
            intro w1 hE1
            go_wp2_with fail
            go_roundw
            case rel =>
              refine ⟨1, by omega, by rfl, hE.trans' hE1, ⟨fun q h1 h2 => by omega, fun k hk => ?_⟩⟩
              obtain rfl : k = 0 := by omega
              rw [Hp.out]
              exact Hw.out
            case measure => simp [intOf]; omega
          · obtain ⟨b2, o2, he2, hb2, hc2⟩ := hnext (j - 1) (by omega)
            simp only [Option.some.injEq, Addr.mk.injEq] at he2
            obtain ⟨rfl, rfl, -⟩ := he2
            have hj1 : 1 ≤ j := by omega
            have hd0 : decide (0 < j) = true := by simp; omega
            generalize hq : l[j - 1]?.getD 0 = q at *
            have Hq := Lib.hid hq
            by_cases hle : p ≤ q
            · have hd1 : decide (p ≤ q) = true := by simpa using hle
              have Hno := Lib.hid (okLine_no_asc (l := l) (fun h => by have := h j (by omega) hlt; omega))
              clear hw hp hnext hq hle
              go_wp2_with fail
              refine wp_region_ext (by kernel_rfl) (by kernel_rfl) ?_
              go_big_quiet_step (fail)
              go_big_quiet_step (fail)
              go_big_quiet_step (fail)
              go_big_quiet_step (fail)
              go_big_quiet_step ((go_at_call 60; exact quiet_same (f60_c _ _ _ _)))
              rw [Hw.out]
              repeat (go_big_quiet_step (fail))
              refine wpQuiet_nil ?_
              intro w1 hE1
              go_wp2_with fail
              go_ret
              exact ⟨ret_int (by rw [Hno.out]; rfl), hE.trans' hE1⟩
            · have hd1 : decide (p ≤ q) = false := by simpa using hle
              have Hle := Lib.hid (show q < p by omega)
              clear hw hp hnext hq hle
              go_wp2_with fail
              refine wp_region_ext (by kernel_rfl) (by kernel_rfl) ?_
              go_big_quiet_step (fail)
              go_big_quiet_step (fail)
              go_big_quiet_step (fail)
              go_big_quiet_step (fail)
              go_big_quiet_step ((go_at_call 60; exact quiet_same (f60_c _ _ _ _)))
              rw [Hw.out]
              repeat (go_big_quiet_step (fail))
              refine wpQuiet_nil ?_
              intro w1 hE1
              go_wp2_with fail
              go_roundw
              case rel =>
                refine ⟨j + 1, by omega, by go_num, hE.trans' hE1, ⟨fun r h1 h2 => ?_, fun k hk => ?_⟩⟩
                · by_cases e : r = j
                  · subst e; rw [Hq.out, Hp.out]; exact Hle.out
                  · exact H.out.1 r h1 (by omega)
                · by_cases e : k = j
                  · subst e; rw [Hp.out]; exact Hw.out
                  · exact H.out.2 k (by omega)
              case measure => simp [intOf]; omega
      · obtain rfl : j = l.length := by omega
        have Hyes := Lib.hid (okLine_yes (l := l) (by omega) (allIn_of H.out.2) H.out.1)
        go_wp2_with fail
        go_ret
        exact ⟨ret_int (by rw [Hyes.out]; rfl), hE⟩
end Go.Proofs.Ytodlbgncdggimaa
