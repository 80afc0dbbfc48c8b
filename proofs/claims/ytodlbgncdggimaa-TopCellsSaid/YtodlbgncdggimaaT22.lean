/- Contracts: Shares, of the program and of the reference. -/
import Derived.Test.YtodlbgncdggimaaT21
import Derived.Test.YtodlbgncdggimaaLAlk
namespace Go.Proofs.Ytodlbgncdggimaa
open Go.RowKit
attribute [local go_sem] GW.cell

def sharesL (l : List Site) (x y : Int) : List Int := if okField l x y then countL l.length (cellsL l x y) else []
theorem shares_ok {l : List Site} {x y : Int} (h : okField l x y = true) : sharesL l x y = countL l.length (cellsL l x y) := by unfold sharesL; rw [if_pos h]
theorem shares_no {l : List Site} {x y : Int} (h : okField l x y = false) : sharesL l x y = [] := by unfold sharesL; rw [h]; rfl
theorem cells_in {l : List Site} {x y : Int} (h : okField l x y = true) : ∀ j (hj : j < (cellsL l x y).length), ∃ i : Nat, (cellsL l x y)[j] = i ∧ i < l.length := (owned_spec (cells_owned h)).2.2
theorem errOf_cases2 (b : Bool) : (b = true ∧ errOf b = 0) ∨ (b = false ∧ errOf b = 1) := by cases b <;> simp [errOf]
theorem retI_nil {w w' : World} {e : Int} (hE : Ext w w') : RetInts [] e w (.returned (.tuple #[.slice none 0 0, .int .i64 e])) w' :=
  ⟨none, 0, rfl, fun j hj => by simp at hj, hE⟩
theorem countL_length (n : Nat) (O : List Int) : (countL n O).length = n := countTo_length _ _ _

set_option maxHeartbeats 1000000 in
theorem f31_c (a : Option Addr) (n c : Nat) (l : List Site) (x y : Int) (w : World) (hl : Sites w a l) (hn : l.length = n) (hlen : n ≤ 140737488355328) :
    Calls Try.prog 31 #[.slice a n c, .int .i64 x, .int .i64 y] w (RetInts (sharesL l x y) (errOf (okField l x y)) w) := by
  subst hn
  have hc := f55_c a l.length c l x y w hl rfl hlen
  rcases errOf_cases2 (okField l x y) with ⟨hok, he⟩ | ⟨hok, he⟩
  · obtain ⟨h0, h1, h2, h3, h4⟩ := okField_bd hok
    have hl5 := okSites_len h0
    have hin := cells_in hok
    rw [shares_ok hok]
    rw [cells_ok hok] at hin ⊢
    obtain ⟨wd, rfl⟩ := Int.eq_ofNat_of_zero_le (a := x) (by omega)
    obtain ⟨ht, rfl⟩ := Int.eq_ofNat_of_zero_le (a := y) (by omega)
    rw [he] at hc ⊢
    have Hc := Lib.hid hc
    have H0 := Lib.hid h0
    have Hin := Lib.hid hin
    have hlen2 : (owns l wd (wd * ht)).length ≤ 144 := by
      rw [owns_length]; exact Nat.le_trans (Nat.mul_le_mul (show wd ≤ 12 by omega) (show ht ≤ 12 by omega)) (by omega)
    clear hc he hok h0 hin
    go_enter Try.func31, Try.ntmps31
    go_wp2_with fail
    refine Hc.out.mono ?_
    rintro e w1 ⟨rfl, hE⟩
    clear Hc
    go_wp2_with fail
    refine (f56_c a l.length c l wd ht w1 (hl.ext hE) rfl H0.out (by omega) (by omega) (by omega) (by omega)).mono ?_
    rintro e w2 ⟨v, rfl, hr, hE2⟩
    obtain ⟨ad, cp, rfl, hI⟩ := ints_of_row hr
    clear hr
    go_wp2_with fail
    refine (f70_c a ad l.length c _ cp (owns l wd (wd * ht)) w2 hI rfl (by omega) (by omega) Hin.out).mono ?_
    rintro e w3 ⟨v, rfl, hr, hE3⟩
    obtain ⟨ad, cp, hv, hI⟩ := ints_of_row hr
    have Hv := Lib.hid hv
    clear hr hv
    go_wp2_with fail
    go_ret2
    exact ⟨ad, cp, by rw [Hv.out]; rfl, hI, hE.trans' (hE2.trans' hE3)⟩
  · rw [shares_no hok]
    rw [he] at hc ⊢
    have Hc := Lib.hid hc
    clear hc he hok
    go_enter Try.func31, Try.ntmps31
    go_wp2_with fail
    refine Hc.out.mono ?_
    rintro e w1 ⟨rfl, hE⟩
    clear Hc
    go_wp2_with fail
    go_ret2
    exact retI_nil hE

set_option maxHeartbeats 1000000 in
theorem f32_c (a : Option Addr) (n c : Nat) (l : List Site) (x y : Int) (w : World) (hl : Sites w a l) (hn : l.length = n) (hlen : n ≤ 140737488355328) :
    Calls Try.prog 32 #[.slice a n c, .int .i64 x, .int .i64 y] w (RetInts (sharesL l x y) (errOf (okField l x y)) w) := by
  subst hn
  have hc := f30_c a l.length c l x y w hl rfl hlen
  rcases errOf_cases2 (okField l x y) with ⟨hok, he⟩ | ⟨hok, he⟩
  · have h5 := okSites_len (okField_bd hok).1
    have hin := cells_in hok
    have hck := cells_len l x y
    rw [shares_ok hok]
    rw [he] at hc ⊢
    have Hc := Lib.hid hc
    have Hin := Lib.hid hin
    clear hc he hok hin
    generalize cellsL l x y = A at *
    go_enter Try.func32, Try.ntmps32
    go_wp2_with fail
    refine Hc.out.mono ?_
    rintro e w1 ⟨a1, c1, rfl, hI1, hE⟩
    clear Hc
    go_wp2_with fail
    refine (f71_c a a1 l.length c _ c1 A w1 hI1 rfl (by omega) (by omega) Hin.out).mono ?_
    rintro e w3 ⟨v, rfl, hr, hE3⟩
    obtain ⟨ad, cp, hv, hI⟩ := ints_of_row hr
    have Hv := Lib.hid hv
    clear hr hv
    go_wp2_with fail
    go_ret2
    exact ⟨ad, cp, by rw [Hv.out]; rfl, hI, hE.trans' hE3⟩
  · rw [shares_no hok]
    rw [he] at hc ⊢
    have Hc := Lib.hid hc
    clear hc he hok
    generalize cellsL l x y = A at *
    go_enter Try.func32, Try.ntmps32
    go_wp2_with fail
    refine Hc.out.mono ?_
    rintro e w1 ⟨a1, c1, rfl, hI1, hE⟩
    clear Hc
    go_wp2_with fail
    go_ret2
    exact retI_nil hE
end Go.Proofs.Ytodlbgncdggimaa
