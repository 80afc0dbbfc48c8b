/- Contract of the reference: SameStretches of equal lists; stretches read as a list. -/
import Derived.DeepKeys
import Derived.ChangeKeysEq
import Derived.Test.YtodlbgncdggimaaStr
namespace Go.Proofs.Ytodlbgncdggimaa
open Go.RowKit
attribute [local go_sem] GW.cell

def Strs (w : World) (a : Option Addr) (l : List Str) : Prop :=
  ∀ j, (hj : j < l.length) → ∃ b off, a = some ⟨b, off, none⟩ ∧ b < w.heap.size ∧ w.cell? ⟨b, off + j * 4, none⟩ = some (.int .i64 l[j].fn) ∧ w.cell? ⟨b, off + j * 4 + 1, none⟩ = some (.int .i64 l[j].fd) ∧ w.cell? ⟨b, off + j * 4 + 2, none⟩ = some (.int .i64 l[j].tn) ∧ w.cell? ⟨b, off + j * 4 + 3, none⟩ = some (.int .i64 l[j].td)
theorem Strs.ext {w w' : World} {a : Option Addr} {l : List Str} (h : Strs w a l) (hE : Ext w w') : Strs w' a l := fun j hj => by
  obtain ⟨b, off, ha, hb, h1, h2, h3, h4⟩ := h j hj
  exact ⟨b, off, ha, Nat.lt_of_lt_of_le hb hE.size, (hE.cell' hb).trans h1, (hE.cell' hb).trans h2, (hE.cell' hb).trans h3, (hE.cell' hb).trans h4⟩
theorem strsV_length (l : List Str) : (strsV l).length = l.length * 4 := by
  induction l with
  | nil => rfl
  | cons s l ih => simp only [strsV, List.flatMap_cons, List.length_append, List.length_cons, List.length_nil] at ih ⊢; omega
theorem strsV_at (l : List Str) : ∀ j (h : j < l.length), (strsV l)[j * 4]? = some (.int .i64 l[j].fn) ∧ (strsV l)[j * 4 + 1]? = some (.int .i64 l[j].fd) ∧ (strsV l)[j * 4 + 2]? = some (.int .i64 l[j].tn) ∧ (strsV l)[j * 4 + 3]? = some (.int .i64 l[j].td) := by
  induction l with
  | nil => intro j h; simp at h
  | cons s l ih =>
    intro j h
    match j with
    | 0 => simp [strsV]
    | j + 1 =>
      have := ih j (by simpa using h)
      have e : strsV (s :: l) = [.int .i64 s.fn, .int .i64 s.fd, .int .i64 s.tn, .int .i64 s.td] ++ strsV l := by simp [strsV]
      rw [e]
      refine ⟨?_, ?_, ?_, ?_⟩ <;> rw [List.getElem?_append_right (by simp; omega)] <;> simp only [List.length_cons, List.length_nil, List.getElem_cons_succ]
      · rw [show (j + 1) * 4 - (0 + 1 + 1 + 1 + 1) = j * 4 by omega]; exact this.1
      · rw [show (j + 1) * 4 + 1 - (0 + 1 + 1 + 1 + 1) = j * 4 + 1 by omega]; exact this.2.1
      · rw [show (j + 1) * 4 + 2 - (0 + 1 + 1 + 1 + 1) = j * 4 + 2 by omega]; exact this.2.2.1
      · rw [show (j + 1) * 4 + 3 - (0 + 1 + 1 + 1 + 1) = j * 4 + 3 by omega]; exact this.2.2.2
theorem strs_of_row {w : World} {base n : Nat} {v : Value} {l : List Str} (h : w.ownsRow base 68 4 v n (strsV l)) : ∃ a c, v = .slice a l.length c ∧ Strs w a l := by
  have hn : l.length = n := by have := h.1; rw [strsV_length] at this; omega
  rcases h.2 with ⟨rfl, h0⟩ | ⟨g, cap, cur, rfl, hb, hg, h1, h2, h3, h4⟩
  · exact ⟨none, 0, by rw [hn, h0], fun j hj => by omega⟩
  · refine ⟨_, cap, by rw [hn], fun j hj => ⟨g, 0, rfl, (Array.getElem?_eq_some_iff.1 hg).1, ?_⟩⟩
    obtain ⟨v0, v1, v2, v3⟩ := strsV_at l j hj
    have c0 := h.cells (g := g) rfl _ _ v0
    have c1 := h.cells (g := g) rfl _ _ v1
    have c2 := h.cells (g := g) rfl _ _ v2
    have c3 := h.cells (g := g) rfl _ _ v3
    rw [add_at] at c0 c1 c2 c3
    exact ⟨c0, by simpa [Nat.add_assoc] using c1, by simpa [Nat.add_assoc] using c2, by simpa [Nat.add_assoc] using c3⟩

theorem eql_rat (a b c d : Int) (w : World) : (binOp .eql 55 (.agg #[.int .i64 a, .int .i64 b]) (.agg #[.int .i64 c, .int .i64 d])).run Try.prog w = .ok (.bool (decide (a = c ∧ b = d))) w := by
  by_cases h1 : a = c <;> by_cases h2 : b = d <;> simp [go_sem, h1, h2]
theorem neq_rat (a b c d : Int) (w : World) : (binOp .neq 55 (.agg #[.int .i64 a, .int .i64 b]) (.agg #[.int .i64 c, .int .i64 d])).run Try.prog w = .ok (.bool (!decide (a = c ∧ b = d))) w := by
  by_cases h1 : a = c <;> by_cases h2 : b = d <;> simp [go_sem, h1, h2]

set_option maxHeartbeats 2000000 in
theorem f45_c (a b : Option Addr) (n c d : Nat) (l : List Str) (w : World) (hl : Strs w a l) (hk : Strs w b l) (hn : l.length = n) (hn1 : n ≤ 140737488355328) :
    Calls Try.prog 45 #[.slice a n c, .slice b n d] w fun e w' => e = .returned (.bool true) ∧ Ext w w' := by
  subst hn
  go_enter Try.func45, Try.ntmps45
  go_wp2_with fail
  go_loopw [5] (fun i wr => ∃ j : Nat, j ≤ l.length ∧ i = .int .i64 j ∧ Ext w wr) (fun i _ => l.length - (intOf i).toNat)
  case atStart => exact ⟨0, by omega, rfl, Below.refl _ _⟩
  case round =>
    obtain ⟨j, hj, rfl, hE⟩ := hrel
    by_cases hlt : j < l.length
    · obtain ⟨b1, o1, rfl, hb1, h1, h2, h3, h4⟩ := hl.ext hE j hlt
      obtain ⟨b2, o2, rfl, hb2, g1, g2, g3, g4⟩ := hk.ext hE j hlt
      generalize l[j] = s at *
      obtain ⟨s1, s2, s3, s4⟩ := s
      dsimp only at *
      go_wp2_with fail
      refine wp_region_ext (by kernel_rfl) (by kernel_rfl) ?_
      repeat (go_big_quiet_step (fail))
      refine wpQuiet_nil ?_
      intro w2 hE2
      go_wp2_with fail
      go_roundw
      case rel => exact ⟨j + 1, by omega, by go_num, hE.trans' hE2⟩
      case measure => simp [intOf]; omega
    · obtain rfl : j = l.length := by omega
      go_wp2_with fail
      go_ret
      exact ⟨rfl, hE⟩
end Go.Proofs.Ytodlbgncdggimaa
