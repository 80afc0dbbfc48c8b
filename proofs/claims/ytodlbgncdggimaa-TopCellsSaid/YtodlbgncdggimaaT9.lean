/- Contracts: ValidateLine. -/
import Derived.Test.YtodlbgncdggimaaT8
namespace Go.Proofs.Ytodlbgncdggimaa
open Go.RowKit
attribute [local go_sem] GW.cell

/-- strictly ascending, as far as place k -/
def ascTo (l : List Int) (k : Nat) : Prop := ∀ j, 1 ≤ j → j < k → l[j - 1]?.getD 0 < l[j]?.getD 0
def asc (l : List Int) : Bool := (List.range l.length).all fun j => decide (j = 0) || decide (l[j - 1]?.getD 0 < l[j]?.getD 0)
theorem asc_iff (l : List Int) : asc l = true ↔ ascTo l l.length := by
  simp only [asc, List.all_eq_true, List.mem_range, Bool.or_eq_true, decide_eq_true_eq, ascTo]
  constructor
  · intro h j h1 h2
    rcases h j h2 with h | h
    · omega
    · exact h
  · intro h j hj
    by_cases e : j = 0
    · exact .inl e
    · exact .inr (h j (by omega) hj)
def okLine (l : List Int) : Bool := (decide (1 ≤ l.length) && decide (l.length ≤ 5)) && (allIn 30 l && asc l)

theorem okLine_yes {l : List Int} (h : 1 ≤ l.length ∧ l.length ≤ 5) (hA : allIn 30 l = true) (hs : ascTo l l.length) : okLine l = true := by
  simp [okLine, h.1, h.2, hA, (asc_iff l).2 hs]
theorem okLine_no_asc {l : List Int} (hs : ¬ ascTo l l.length) : okLine l = false := by
  have : asc l = false := by
    cases h : asc l with
    | false => rfl
    | true => exact absurd ((asc_iff l).1 h) hs
  simp [okLine, this]
theorem okLine_no_in {l : List Int} (hA : allIn 30 l = false) : okLine l = false := by simp [okLine, hA]
theorem okLine_no_len {l : List Int} (h : ¬ (1 ≤ l.length ∧ l.length ≤ 5)) : okLine l = false := by
  have : (decide (1 ≤ l.length) && decide (l.length ≤ 5)) = false := by
    rw [← Bool.decide_and, decide_eq_false_iff_not]; exact h
  simp only [okLine, this, Bool.false_and]
theorem okLine_spec {l : List Int} (h : okLine l = true) : (1 ≤ l.length ∧ l.length ≤ 5) ∧ allIn 30 l = true ∧ ascTo l l.length := by
  simp only [okLine, Bool.and_eq_true, decide_eq_true_eq] at h
  exact ⟨h.1, h.2.1, (asc_iff l).1 h.2.2⟩
theorem allIn_at {m : Int} {l : List Int} (h : allIn m l = true) {k : Nat} (hk : k < l.length) : -m ≤ l[k] ∧ l[k] ≤ m := by
  have := List.all_eq_true.1 h _ (List.getElem_mem hk)
  exact withinB_iff.1 this

set_option maxHeartbeats 1000000 in
theorem f43_c (a : Option Addr) (n c : Nat) (l : List Int) (w : World) (hl : Ints w a l) (hn : l.length = n) (hlen : n ≤ 140737488355328) :
    Calls Try.prog 43 #[.slice a n c] w fun e w' => e = .returned (.int .i64 (errOf (okLine l))) ∧ Ext w w' := by
  subst hn
  by_cases h15 : 1 ≤ l.length ∧ l.length ≤ 5
  · have hd1 : decide ((l.length : Int) < 1) = false := by simp; omega
    have hd5 : decide ((5 : Int) < (l.length : Int)) = false := by simp; omega
    by_cases hA : allIn 30 l = true
    · go_enter Try.func43, Try.ntmps43
      go_wp2_with fail
      refine (f57_c 30 a l.length c l w hl rfl hlen (by omega) (by omega)).mono ?_
      rintro e w1 ⟨rfl, hE0⟩
      have HA := Lib.hid hA
      go_wp2_with fail
      clear hA
      go_loopw [3] (fun i wr => ∃ j : Nat, 1 ≤ j ∧ j ≤ l.length ∧ i = .int .i64 j ∧ Ext w wr ∧ Hid (ascTo l j)) (fun i _ => l.length - (intOf i).toNat)
      case atStart => exact ⟨1, by omega, by omega, rfl, hE0, fun j h1 h2 => by omega⟩
      case round =>
        obtain ⟨j, hj1, hj, rfl, hE, H⟩ := hrel
        by_cases hlt : j < l.length
        · obtain ⟨b1, o1, rfl, hb1, hc1⟩ := hl.ext hE j hlt
          obtain ⟨b2, o2, he2, hb2, hc2⟩ := hl.ext hE (j - 1) (by omega)
          simp only [Option.some.injEq, Addr.mk.injEq] at he2
          obtain ⟨rfl, rfl, -⟩ := he2
          go_wp2_with fail
          refine wp_region_ext (by kernel_rfl) (by kernel_rfl) ?_
          repeat (go_big_quiet_step (fail))
          refine wpQuiet_nil ?_
          intro w2 hE2
          go_wp2_with fail
          · have hy : l[j] ≤ l[j - 1]?.getD 0 := by assumption
            go_ret
            refine ⟨ret_int ?_, hE.trans' hE2⟩
            rw [okLine_no_asc (fun h => ?_)]; rfl
            have := h j hj1 hlt
            rw [List.getElem?_eq_getElem hlt, Option.getD_some] at this
            omega
          · have hy : l[j - 1]?.getD 0 < l[j] := by assumption
            go_roundw
            case rel =>
              refine ⟨j + 1, by omega, by omega, by go_num, hE.trans' hE2, fun q h1 h2 => ?_⟩
              by_cases e : q = j
              · subst e; rw [List.getElem?_eq_getElem hlt, Option.getD_some]; exact hy
              · exact H.out q h1 (by omega)
            case measure => simp [intOf]; omega
        · obtain rfl : j = l.length := by omega
          go_wp2_with fail
          go_ret
          refine ⟨ret_int ?_, hE⟩
          rw [okLine_yes h15 HA.out H.out]; rfl
    · have hA' : allIn 30 l = false := by simpa using hA
      clear hA
      go_enter Try.func43, Try.ntmps43
      go_wp2_with fail
      refine (f57_c 30 a l.length c l w hl rfl hlen (by omega) (by omega)).mono ?_
      rintro e w1 ⟨rfl, hE0⟩
      have HA := Lib.hid hA'
      go_wp2_with fail
      go_ret
      refine ⟨ret_int ?_, hE0⟩
      rw [okLine_no_in HA.out]; rfl
  · by_cases h1 : l.length < 1
    · have hd1 : decide ((l.length : Int) < 1) = true := by simp; omega
      go_enter Try.func43, Try.ntmps43
      go_wp2_with fail
      go_ret
      refine ⟨ret_int ?_, Below.refl _ _⟩
      rw [okLine_no_len h15]; rfl
    · have hd1 : decide ((l.length : Int) < 1) = false := by simp; omega
      have hd5 : decide ((5 : Int) < (l.length : Int)) = true := by simp; omega
      go_enter Try.func43, Try.ntmps43
      go_wp2_with fail
      go_ret
      refine ⟨ret_int ?_, Below.refl _ _⟩
      rw [okLine_no_len h15]; rfl
end Go.Proofs.Ytodlbgncdggimaa
