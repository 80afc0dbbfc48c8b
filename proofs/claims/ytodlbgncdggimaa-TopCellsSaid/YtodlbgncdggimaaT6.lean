/- The powers of all sites at a point. -/
import Derived.Test.YtodlbgncdggimaaT5
namespace Go.Proofs.Ytodlbgncdggimaa
open Go.RowKit
attribute [local go_sem] GW.cell

/-- the power of site i, 0 where there is none -/
def pw (l : List Site) (x y : Int) (i : Nat) : Int := match l[i]? with | some s => pow s x y | none => 0
/-- .. of the first k sites alone -/
def pwk (l : List Site) (x y : Int) (k i : Nat) : Int := if i < k then pw l x y i else 0

theorem pwk_full (l : List Site) (x y : Int) (i : Nat) : pwk l x y l.length i = pw l x y i := by
  unfold pwk
  by_cases h : i < l.length
  · rw [if_pos h]
  · rw [if_neg h, pw, List.getElem?_eq_none (by omega)]

def Inside (x y : Int) : Prop := -1000 ≤ x ∧ x ≤ 1000 ∧ -1000 ≤ y ∧ y ≤ 1000

set_option maxHeartbeats 1000000 in
theorem f64_c (a : Option Addr) (n c : Nat) (l : List Site) (x y : Int) (w : World) (hl : Sites w a l) (hn : l.length = n) (hok : okSites l = true) (hxy : Inside x y) :
    Calls Try.prog 64 #[.slice a n c, .int .i64 x, .int .i64 y] w fun e w' =>
      e = .returned (.tuple #[.agg #[.int .i64 (pw l x y 0), .int .i64 (pw l x y 1), .int .i64 (pw l x y 2), .int .i64 (pw l x y 3), .int .i64 (pw l x y 4)], .int .i64 (minTo (l.map fun s => pow s x y) n)]) ∧ Ext w w' := by
  subst hn
  have hlen := okSites_len hok
  have Hok := Lib.hid hok
  clear hok
  go_enter Try.func64, Try.ntmps64
  go_wp2_with fail
  go_loopw [9, 10, 13] (fun _ _ i wr => ∃ k : Nat, k ≤ l.length ∧ i = .int .i64 k ∧ Ext w wr ∧ w.heap.size + 1 < wr.heap.size ∧
      Hid (∀ i, i < 5 → wr.cell? ⟨w.heap.size, i, none⟩ = some (.int .i64 0)) ∧ Hid (∀ i, i < 5 → wr.cell? ⟨w.heap.size + 1, i, none⟩ = some (.int .i64 (pwk l x y k i))) ∧
      (∀ i, wr.frozen? ⟨w.heap.size, i, none⟩ = false) ∧ (∀ i, wr.frozen? ⟨w.heap.size + 1, i, none⟩ = false)) (fun _ _ i _ => l.length - (intOf i).toNat)
  case atStart =>
    refine ⟨0, by omega, rfl, ((Below.refl _ w).alloc (Nat.le_refl _) _).alloc (by simp) _, by simp, ?_, ?_, ?_, ?_⟩
    · intro i hi
      have : i = 0 ∨ i = 1 ∨ i = 2 ∨ i = 3 ∨ i = 4 := by omega
      rcases this with rfl | rfl | rfl | rfl | rfl <;> simp
    · intro i hi
      have : i = 0 ∨ i = 1 ∨ i = 2 ∨ i = 3 ∨ i = 4 := by omega
      rcases this with rfl | rfl | rfl | rfl | rfl <;> simp [pwk]
    · intro i; rw [fz_old (ext_alloc _ _) (by simp)]; exact fz_new _ _ _ _
    · intro i; simp
  case round =>
    obtain ⟨k, hk, rfl, hE, hz, H0, H1, hf0, hf1⟩ := hrel
    by_cases hlt : k < l.length
    · obtain ⟨b, off, rfl, hb, hx, hy, hw⟩ := hl.ext hE k hlt
      have hnear : Near l[k] x y := ⟨okSites_at Hok.out hlt, hxy⟩
      go_wp2_with fail
      refine (f58_c l[k] x y _ hnear).mono ?_
      rintro e w1 ⟨rfl, hE1⟩
      have hE2 : Ext wr w1 := Ext.trans' ((Below.refl _ wr).alloc (Nat.le_refl _) _) hE1
      have hcw : w1.cell? ⟨w.heap.size + 1, k, none⟩ = some (.int .i64 (pwk l x y k k)) := (hE2.cell' (by omega)).trans (H1.out k (by omega))
      have hfw : w1.frozen? ⟨w.heap.size + 1, k, none⟩ = false := (hE2.frozen (p := ⟨_, k, none⟩) (by show w.heap.size + 1 < _; omega)).trans (hf1 k)
      have hk5 : (k : Int) < 5 := by omega
      go_wp2_with fail
      go_roundw
      case rel =>
        have hE3 : Ext w w1 := hE.trans' hE2
        refine ⟨k + 1, by omega, by go_num, hE3.setCell (by simp) _, by have := hE2.size; simp; omega, ?_, ?_, ?_, ?_⟩
        · intro i hi
          rw [World.cell?_setCell_other _ _ _ _ (by simp)]
          exact (hE2.cell' (by omega)).trans (H0.out i hi)
        · intro i hi
          by_cases e : i = k
          · subst e
            rw [World.cell?_setCell_same' _ _ _ (by rw [hcw]; rfl)]
            simp [pwk, pw, hlt]
          · rw [World.cell?_setCell_other _ _ _ _ (by simp only [ne_eq, Addr.mk.injEq]; omega)]
            refine ((hE2.cell' (by omega)).trans (H1.out i hi)).trans ?_
            simp only [pwk]
            congr 2
            by_cases e2 : i < k
            · rw [if_pos e2, if_pos (by omega)]
            · rw [if_neg e2, if_neg (by omega)]
        · intro i
          rw [World.frozen?_setCell]
          exact (hE2.frozen (p := ⟨_, i, none⟩) (by show w.heap.size < _; omega)).trans (hf0 i)
        · intro i
          rw [World.frozen?_setCell]
          exact (hE2.frozen (p := ⟨_, i, none⟩) (by show w.heap.size + 1 < _; omega)).trans (hf1 i)
      case measure => simp [intOf]; omega
    · obtain rfl : k = l.length := by omega
      have h10 := H1.out 0 (by omega)
      have h11 := H1.out 1 (by omega)
      have h12 := H1.out 2 (by omega)
      have h13 := H1.out 3 (by omega)
      have h14 := H1.out 4 (by omega)
      have h00 := H0.out 0 (by omega)
      have h01 := H0.out 1 (by omega)
      have h02 := H0.out 2 (by omega)
      have h03 := H0.out 3 (by omega)
      have h04 := H0.out 4 (by omega)
      have hz0 : w.heap.size < wr.heap.size := by omega
      have hl5 : (l.length : Int) ≤ 5 := by omega
      have hl0 : (0 : Int) ≤ (l.length : Int) := by omega
      have Hi : ∀ x' : GW wr, Ints x'.world (some ⟨w.heap.size + 1, 0, none⟩) (l.map fun s => pow s x y) := by
        intro x' j hj
        rw [List.length_map] at hj
        refine ⟨_, _, rfl, by have := x'.ext.size; omega, ?_⟩
        rw [x'.cell (by omega), Nat.zero_add, H1.out j (by omega)]
        simp [pwk, pw, hj]
      go_wp2_with fail
      refine wp_region_ext_tail 5 (by kernel_rfl) (by kernel_rfl) ?_
      simp only [List.take_succ_cons, List.take_zero, List.drop_succ_cons, List.drop_zero]
      repeat (go_big_quiet_step ((go_at_call 90; exact quiet_same (f90_c _ _ _ _ _ (Hi _) (by simp) (by omega) (by omega)))))
      refine wpQuiet_nil ?_
      intro w1 hE1
      have g0 := fun i (hi : i < 5) => (hE1.cell' hz0).trans (H0.out i hi)
      have g00 := g0 0 (by omega)
      have g01 := g0 1 (by omega)
      have g02 := g0 2 (by omega)
      have g03 := g0 3 (by omega)
      have g04 := g0 4 (by omega)
      have gf := fun i => (hE1.frozen (p := ⟨w.heap.size, i, none⟩) hz0).trans (hf0 i)
      clear g0
      go_wp2_with fail
      refine bodyPost_ret (v := .tuple #[.agg #[.int .i64 (pwk l x y l.length 0), .int .i64 (pwk l x y l.length 1), .int .i64 (pwk l x y l.length 2), .int .i64 (pwk l x y l.length 3), .int .i64 (pwk l x y l.length 4)], .int .i64 (minTo (l.map fun s => pow s x y) l.length)])
        (by simp [results, Try.results64, go_sem, g00, g01, g02, g03, g04]) rfl ⟨?_, ?_⟩
      · rw [pwk_full, pwk_full, pwk_full, pwk_full, pwk_full]
      · exact (((((hE.trans' hE1).setCell (Nat.le_refl _) _).setCell (Nat.le_refl _) _).setCell (Nat.le_refl _) _).setCell (Nat.le_refl _) _).setCell (Nat.le_refl _) _
end Go.Proofs.Ytodlbgncdggimaa
