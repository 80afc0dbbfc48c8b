/- Contracts: owned, of the program and of the reference. -/
import Derived.Test.YtodlbgncdggimaaT12
namespace Go.Proofs.Ytodlbgncdggimaa
open Go.RowKit
attribute [local go_sem] GW.cell

/-- are the numbers of O right owners of the pixels? -/
def okOwned (l : List Site) (x y : Int) (O : List Int) : Bool := okField l x y && (decide ((O.length : Int) = x * y) && O.all (isNo l))

theorem f88_c (i : Int) (b : Nat) (a : Option Addr) (c : Nat) (l : List Site) (w : World) (hc : w.cell? ⟨b, 0, none⟩ = some (.slice a l.length c)) :
    Calls Try.prog 88 #[.int .i64 i, .pointer (some ⟨b, 0, none⟩)] w fun e w' => e = .returned (.bool (!isNo l i)) ∧ w = w' := by
  go_enter Try.func88, Try.ntmps88
  go_wp2
  all_goals (go_ret; exact ⟨ret_bool (by rw [Bool.eq_iff_iff]; simp [isNo, withinB]; try omega), rfl⟩)

set_option maxHeartbeats 1000000 in
theorem f95_owned (bm : Nat) (a al : Option Addr) (c cl : Nat) (l : List Int) (S : List Site) (w : World) (hl : Ints w a l) (hlen : l.length ≤ 140737488355328)
    (hc : w.cell? ⟨bm, 0, none⟩ = some (.slice al S.length cl)) :
    Calls Try.prog 95 #[.slice a l.length c, .func (.func 88) #[] #[.pointer (some ⟨bm, 0, none⟩)]] w fun e w' =>
      e = .returned (.int .i64 (idxP (fun n => !isNo S n) l)) ∧ w = w' := by
  go_enter Try.func95, Try.ntmps95
  go_wp2_with fail
  go_loop [5, 8] (fun _ i => ∃ k : Nat, k ≤ l.length ∧ i = .int .i64 k ∧ Hid (∀ j, j < k → (!isNo S (l[j]?.getD 0)) = false)) (fun _ i => l.length - (intOf i).toNat)
  case atStart => exact ⟨0, Nat.zero_le _, rfl, fun j hj => by omega⟩
  case round =>
    obtain ⟨k, hk, rfl, H⟩ := hrel
    by_cases hlt : k < l.length
    · obtain ⟨b, off, rfl, hb, hcc⟩ := hl k hlt
      go_wp2_with (go_at_call 88; refine (f88_c _ _ _ _ _ _ hc).mono ?_; rintro e w' ⟨rfl, rfl⟩)
      · have hy : (!isNo S l[k]) = true := by assumption
        go_ret
        exact ⟨ret_int (idxP_hit (p := fun n => !isNo S n) hlt H.out hy).symm, rfl⟩
      · have hy : (!isNo S l[k]) = false := by assumption
        go_round
        case rel =>
          refine ⟨k + 1, by omega, by go_num, fun j hj => ?_⟩
          by_cases e : j = k
          · subst e; rw [List.getElem?_eq_getElem hlt]; exact hy
          · exact H.out j (by omega)
        case measure => simp [intOf]; omega
    · obtain rfl : k = l.length := by omega
      go_wp2_with fail
      go_ret
      exact ⟨ret_int (idxP_miss (p := fun n => !isNo S n) H.out).symm, rfl⟩

theorem f85_owned (bm : Nat) (a al : Option Addr) (n c cl : Nat) (l : List Int) (S : List Site) (w : World) (hl : Ints w a l) (hn : l.length = n) (hlen : n ≤ 140737488355328)
    (hc : w.cell? ⟨bm, 0, none⟩ = some (.slice al S.length cl)) :
    Calls Try.prog 85 #[.slice a n c, .func (.func 88) #[] #[.pointer (some ⟨bm, 0, none⟩)]] w fun e w' =>
      e = .returned (.bool (!l.all (isNo S))) ∧ w = w' := by
  subst hn
  go_enter Try.func85, Try.ntmps85
  go_wp2_with (go_at_call 95; refine (f95_owned _ _ _ _ _ _ _ _ hl hlen hc).mono ?_; rintro e w' ⟨rfl, rfl⟩)
  go_ret
  refine ⟨ret_bool ?_, rfl⟩
  rw [idxP_geq, List.all_eq_not_any_not, Bool.not_not]

theorem prod_bd {x y : Int} (h1 : 1 ≤ x) (h2 : x ≤ 12) (h3 : 1 ≤ y) (h4 : y ≤ 12) : 1 ≤ x * y ∧ x * y ≤ 144 := by
  obtain ⟨a, rfl⟩ := Int.eq_ofNat_of_zero_le (a := x) (by omega)
  obtain ⟨b, rfl⟩ := Int.eq_ofNat_of_zero_le (a := y) (by omega)
  have h5 : a * b ≤ 144 := Nat.le_trans (Nat.mul_le_mul (show a ≤ 12 by omega) (show b ≤ 12 by omega)) (by omega)
  have h6 : 1 ≤ a * b := Nat.mul_pos (by omega) (by omega)
  have e : ((a : Int) * (b : Int)) = ((a * b : Nat) : Int) := by simp
  rw [e]; omega

theorem owned_field {l : List Site} {x y : Int} {O : List Int} (h : okField l x y = false) : okOwned l x y O = false := by simp [okOwned, h]
theorem owned_len {l : List Site} {x y : Int} {O : List Int} (h : (O.length : Int) ≠ x * y) : okOwned l x y O = false := by simp [okOwned, h]
theorem owned_no {l : List Site} {x y : Int} {O : List Int} (h : O.all (isNo l) = false) : okOwned l x y O = false := by
  rw [okOwned, h]; simp
theorem owned_yes {l : List Site} {x y : Int} {O : List Int} (h : okField l x y = true) (h1 : (O.length : Int) = x * y) (h2 : O.all (isNo l) = true) : okOwned l x y O = true := by
  rw [okOwned, h, h2]; simp [h1]
theorem owned_spec {l : List Site} {x y : Int} {O : List Int} (h : okOwned l x y O = true) : okField l x y = true ∧ (O.length : Int) = x * y ∧ ∀ j (hj : j < O.length), ∃ i : Nat, O[j] = i ∧ i < l.length := by
  simp only [okOwned, Bool.and_eq_true, decide_eq_true_eq] at h
  refine ⟨h.1, h.2.1, fun j hj => isNo_at (List.all_eq_true.1 h.2.2 _ (List.getElem_mem hj))⟩

set_option maxHeartbeats 1000000 in
theorem f62_c (a b : Option Addr) (n c m d : Nat) (l : List Site) (O : List Int) (x y : Int) (w : World) (hl : Sites w a l) (hO : Ints w b O) (hn : l.length = n) (hm : O.length = m) (hlen : n ≤ 140737488355328) (hlm : m ≤ 140737488355328) :
    Calls Try.prog 62 #[.slice a n c, .int .i64 x, .int .i64 y, .slice b m d] w fun e w' => e = .returned (.int .i64 (errOf (okOwned l x y O))) ∧ Ext w w' := by
  subst hn hm
  have hEb := ext_alloc w (.cells #[.slice a l.length c] 22)
  have hc := f55_c a l.length c l x y _ (hl.ext hEb) rfl hlen
  rcases Bool.eq_false_or_eq_true (okField l x y) with hok | hok
  · have he : errOf (okField l x y) = 0 := by rw [hok]; rfl
    rw [he] at hc
    obtain ⟨_, h1, h2, h3, h4⟩ := okField_bd hok
    have hp := prod_bd h1 h2 h3 h4
    have Hc := Lib.hid hc
    have Hok := Lib.hid hok
    by_cases hq : (O.length : Int) = x * y
    · have hne : ((O.length : Int) != x * y) = false := by simp [hq]
      have Hq := Lib.hid hq
      cases hall : O.all (isNo l) with
      | true =>
        have Hall := Lib.hid hall
        clear hc he hok hq hall
        go_enter Try.func62, Try.ntmps62
        go_wp2_with fail
        refine Hc.out.mono ?_
        rintro e w1 ⟨rfl, hE1⟩
        clear Hc
        have hcb : w1.cell? ⟨w.heap.size, 0, none⟩ = some (.slice a l.length c) := (hE1.cell' (by simp)).trans (by simp)
        go_wp2_with fail
        refine (f85_owned _ b a _ _ c O l w1 (hO.ext (hEb.trans' hE1)) rfl hlm hcb).mono ?_
        rintro e w2 ⟨rfl, rfl⟩
        rw [Hall.out]
        go_wp2_with fail
        go_ret
        exact ⟨ret_int (by rw [owned_yes Hok.out Hq.out Hall.out]; rfl), hEb.trans' hE1⟩
      | false =>
        have Hall := Lib.hid hall
        clear hc he hok hq hall
        go_enter Try.func62, Try.ntmps62
        go_wp2_with fail
        refine Hc.out.mono ?_
        rintro e w1 ⟨rfl, hE1⟩
        clear Hc
        have hcb : w1.cell? ⟨w.heap.size, 0, none⟩ = some (.slice a l.length c) := (hE1.cell' (by simp)).trans (by simp)
        go_wp2_with fail
        refine (f85_owned _ b a _ _ c O l w1 (hO.ext (hEb.trans' hE1)) rfl hlm hcb).mono ?_
        rintro e w2 ⟨rfl, rfl⟩
        rw [Hall.out]
        go_wp2_with fail
        go_ret
        exact ⟨ret_int (by rw [owned_no Hall.out]; rfl), hEb.trans' hE1⟩
    · have hne : ((O.length : Int) != x * y) = true := by simp [hq]
      have Hq := Lib.hid hq
      clear hc he hok hq
      go_enter Try.func62, Try.ntmps62
      go_wp2_with fail
      refine Hc.out.mono ?_
      rintro e w1 ⟨rfl, hE1⟩
      clear Hc
      go_wp2_with fail
      go_ret
      exact ⟨ret_int (by rw [owned_len Hq.out]; rfl), hEb.trans' hE1⟩
  · have he : errOf (okField l x y) = 1 := by rw [hok]; rfl
    rw [he] at hc
    have Hc := Lib.hid hc
    have Hok := Lib.hid hok
    clear hc he hok
    go_enter Try.func62, Try.ntmps62
    go_wp2_with fail
    refine Hc.out.mono ?_
    rintro e w1 ⟨rfl, hE1⟩
    clear Hc
    go_wp2_with fail
    go_ret
    exact ⟨ret_int (by rw [owned_field Hok.out]; rfl), hEb.trans' hE1⟩

theorem f69_c (x y : Int) (w : World) :
    Calls Try.prog 69 #[.int .i64 x, .int .i64 y] w fun e w' => e = .returned (.bool (withinB x 1 12 && withinB y 1 12)) ∧ w = w' := by
  cases h : withinB x 1 12 with
  | true =>
    have H := Lib.hid h
    clear h
    go_enter Try.func69, Try.ntmps69
    go_wp2_with fail
    refine (f60_c _ _ _ _).mono ?_
    rintro e w1 ⟨rfl, rfl⟩
    rw [H.out]
    go_wp2_with (go_at_call 60; refine (f60_c _ _ _ _).mono ?_; rintro e w' ⟨rfl, rfl⟩)
    go_ret
    exact ⟨ret_bool (by simp), rfl⟩
  | false =>
    have H := Lib.hid h
    clear h
    go_enter Try.func69, Try.ntmps69
    go_wp2_with fail
    refine (f60_c _ _ _ _).mono ?_
    rintro e w1 ⟨rfl, rfl⟩
    rw [H.out]
    go_wp2_with fail
    go_ret
    exact ⟨ret_bool (by simp), rfl⟩
end Go.Proofs.Ytodlbgncdggimaa
