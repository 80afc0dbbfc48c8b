/- Contract of the reference: Cells. -/
import Derived.Test.YtodlbgncdggimaaT20
import Derived.Test.YtodlbgncdggimaaP3
namespace Go.Proofs.Ytodlbgncdggimaa
open Go.RowKit
attribute [local go_sem] GW.cell

theorem cells_ok {l : List Site} {x y : Int} (h : okField l x y = true) : cellsL l x y = owns l x.toNat (x.toNat * y.toNat) := by unfold cellsL; rw [if_pos h]

theorem IsOwn.hit {l : List Site} {x y : Int} {i : Nat} (h : IsOwn l x y i) (hi : i < l.length) : pow l[i] x y = leastP l x y := by
  rw [← pw_in hi]; exact h.least
theorem IsOwn.far {l : List Site} {x y : Int} {i : Nat} (h : IsOwn l x y i) {j : Nat} (hj : j < l.length) (hji : j < i) : pow l[j] x y ≠ leastP l x y := by
  have h1 := h.2.2 j hji
  rw [h.least, pw_in hj] at h1
  omega

set_option maxHeartbeats 2000000 in
theorem f30_c (a : Option Addr) (n c : Nat) (l : List Site) (x y : Int) (w : World) (hl : Sites w a l) (hn : l.length = n) (hlen : n ≤ 140737488355328) :
    Calls Try.prog 30 #[.slice a n c, .int .i64 x, .int .i64 y] w (RetInts (cellsL l x y) (errOf (okField l x y)) w) := by
  subst hn
  have hc := f23_c a l.length c l w hl rfl hlen
  obtain ⟨i0, hi0⟩ := info_parts info3
  have Hi := Lib.hid hi0
  clear hi0
  rcases Bool.eq_false_or_eq_true (okSites l) with hok | hok
  · have he : errOf (okSites l) = 0 := by rw [hok]; rfl
    rw [he] at hc
    have Hc := Lib.hid hc
    have hl5 := okSites_len hok
    rcases Bool.eq_false_or_eq_true (withinB x 1 12 && withinB y 1 12) with hw | hw
    · have hF : okField l x y = true := by rw [field_split, hok, hw]; rfl
      obtain ⟨_, h1, h2, h3, h4⟩ := okField_bd hF
      have hp := prod_bd h1 h2 h3 h4
      have hL := cells_ok hF
      have he2 : errOf (okField l x y) = 0 := by rw [hF]; rfl
      rw [hL, he2]
      obtain ⟨wd, rfl⟩ := Int.eq_ofNat_of_zero_le (a := x) (by omega)
      obtain ⟨ht, rfl⟩ := Int.eq_ofNat_of_zero_le (a := y) (by omega)
      have hN : ((wd : Int) * (ht : Int)) = ((wd * ht : Nat) : Int) := by simp
      have hN2 : wd * ht ≤ 144 := by omega
      have HN := Lib.hid hN
      have Hw := Lib.hid hw
      have Hok := Lib.hid hok
      have hst := fun i (h : i < l.length) => okSites_at hok h
      have Hst := Lib.hid hst
      clear hc he hok hw hF hL he2 hN hst
      go_enter Try.func30, Try.ntmps30
      go_wp2_with fail
      refine Hc.out.mono ?_
      rintro e w1 ⟨rfl, rfl⟩
      clear Hc
      go_wp2_with fail
      refine (f69_c _ _ _).mono ?_
      rintro e w1 ⟨rfl, rfl⟩
      rw [Hw.out]
      go_wp2_with fail
      go_loopw [9, 10, 11, 12, 13] (fun v p _ _ _ wr => ∃ k : Nat, k ≤ wd * ht ∧ p = .int .i64 k ∧ Ext w wr ∧ Hid (wr.ownsRow w.heap.size 3 1 v k ((owns l wd k).map (.int .i64)))) (fun _ p _ _ _ _ => wd * ht - (intOf p).toNat)
      case atStart => exact ⟨0, by omega, rfl, Below.refl _ _, Lib.hid (World.ownsRow_nil _ _ _ _)⟩
      case round =>
        obtain ⟨k, hk, rfl, hE, H⟩ := hrel
        by_cases hlt : k < wd * ht
        · have hlt2 : (k : Int) < (wd : Int) * (ht : Int) := by rw [HN.out]; omega
          obtain ⟨i1, hi1, ho⟩ := own_is l wd k Hok.out
          have hi1 := Lib.hid hi1
          have hil := ho.1
          have Hle : Hid (pow l[i1] (pxx wd k) (pxy wd k) = leastP l (pxx wd k) (pxy wd k)) := Lib.hid (ho.hit hil)
          have Ho2 : Hid (∀ j (hj : j < l.length), j < i1 → pow l[j] (pxx wd k) (pxy wd k) ≠ leastP l (pxx wd k) (pxy wd k)) := Lib.hid (fun j hj hji => ho.far hj hji)
          clear ho
          go_wp2_with fail
          refine (f66_c a l.length c l wd k wr (hl.ext hE) rfl Hok.out (by omega) (by omega) (by omega)).mono ?_
          rintro e w2 ⟨rfl, hE2⟩
          have hE3 := hE.trans' hE2
          have H3 := Lib.hid (row_ext H.out hE2)
          clear H
          generalize hlo : leastP l (pxx wd k) (pxy wd k) = low at *
          go_wp2_with fail
          go_loopw [13] (fun i wr => ∃ q : Nat, q ≤ i1 ∧ i = .int .i64 q ∧ Ext w2 wr) (fun i _ => i1 - (intOf i).toNat)
          case atStart => exact ⟨0, by omega, rfl, Below.refl _ _⟩
          case round =>
            obtain ⟨q, hq, rfl, hE4⟩ := hrel
            by_cases hlq : q < i1
            · have hql : q < l.length := by omega
              have hb : (pow l[q] (pxx wd k) (pxy wd k) != low) = true := by simp; exact Ho2.out q hql hlq
              obtain ⟨b1, o1, rfl, hb1, hcx, hcy, hcw⟩ := hl.ext (hE3.trans' hE4) q hql
              go_wp2_with fail
              refine (f67_c l[q] wd k _ (Hst.out q hql) (by omega) (by omega) (by omega)).mono ?_
              rintro e w3 ⟨rfl, hE5⟩
              go_wp2_with fail
              go_roundw
              case rel => exact ⟨q + 1, by omega, by go_num, hE4.trans' hE5⟩
              case measure => simp [intOf]; omega
            · obtain rfl : q = i1 := by omega
              have hb : (pow l[q] (pxx wd k) (pxy wd k) != low) = false := by simp; exact Hle.out
              obtain ⟨b1, o1, rfl, hb1, hcx, hcy, hcw⟩ := hl.ext (hE3.trans' hE4) q hil
              go_wp2_with fail
              refine (f67_c l[q] wd k _ (Hst.out q hil) (by omega) (by omega) (by omega)).mono ?_
              rintro e w3 ⟨rfl, hE5⟩
              have hE6 := hE3.trans' (hE4.trans' hE5)
              have H6 := Lib.hid (row_ext H3.out (hE4.trans' hE5))
              have Hn := Lib.hid (reads_ints (ints_new1 w3 (q : Int) 3 w3.heap.size rfl))
              have hsz := hE6.size
              clear H3
              go_wp2_with (at_builtin; refine wpList_append_any _ rfl (.tmp 48) (.tmp 50) 26 rfl w.heap.size 3 i0 (.int .i64 0) 1 8 Try.underlying26 Hi.out.1 Hi.out.2.1 Hi.out.2.2.1 Hi.out.2.2.2 rfl (by omega) _ k _ rfl (Lib.hid (World.ownsRow.alloc H6.out _)).out _ (some ⟨w3.heap.size, 0, none⟩) 1 1 [.int .i64 q] rfl Hn.out (by simp [Value.oneCell']) (by unfold maxLen; omega) (by omega) (by simp; omega) ?_; intro v' w4 hown hgrow hat; have hE7 := ext_append hE6 H6.out (Nat.le_refl _) hgrow; have H7 : Hid (w4.ownsRow w.heap.size 3 1 v' (k + 1) ((owns l wd (k + 1)).map (.int .i64))) := (by rw [owns_succ, List.map_append, hi1.out]; exact hown); clear hat hgrow hown)
              go_roundw
              case rel => exact ⟨k + 1, by omega, by go_num, hE7, H7⟩
              case measure => simp [intOf]; omega
        · obtain rfl : k = wd * ht := by omega
          have hlt2 : ¬ ((wd * ht : Nat) : Int) < (wd : Int) * (ht : Int) := by rw [HN.out]; omega
          obtain ⟨ad, cp, rfl, hI⟩ := ints_of_row H.out
          clear H
          go_wp2_with fail
          go_ret2
          exact ⟨ad, cp, rfl, hI, hE⟩
    · have hF : okField l x y = false := by rw [field_split, hw]; simp
      have he2 : errOf (okField l x y) = 1 := by rw [hF]; rfl
      have hL : cellsL l x y = [] := by rw [cellsL, hF]; rfl
      rw [he2, hL]
      have Hw := Lib.hid hw
      clear hc he hok hw hF he2 hL
      go_enter Try.func30, Try.ntmps30
      go_wp2_with fail
      refine Hc.out.mono ?_
      rintro e w1 ⟨rfl, rfl⟩
      clear Hc
      go_wp2_with fail
      refine (f69_c _ _ _).mono ?_
      rintro e w1 ⟨rfl, rfl⟩
      rw [Hw.out]
      go_wp2_with fail
      go_ret2
      exact ⟨none, 0, rfl, fun j hj => by simp at hj, Below.refl _ _⟩
  · have he : errOf (okSites l) = 1 := by rw [hok]; rfl
    rw [he] at hc
    have hF : okField l x y = false := by rw [field_split, hok]; rfl
    have he2 : errOf (okField l x y) = 1 := by rw [hF]; rfl
    have hL : cellsL l x y = [] := by rw [cellsL, hF]; rfl
    rw [he2, hL]
    have Hc := Lib.hid hc
    clear hc he hok hF he2 hL
    go_enter Try.func30, Try.ntmps30
    go_wp2_with fail
    refine Hc.out.mono ?_
    rintro e w1 ⟨rfl, rfl⟩
    clear Hc
    go_wp2_with fail
    go_ret2
    exact ⟨none, 0, rfl, fun j hj => by simp at hj, Below.refl _ _⟩
end Go.Proofs.Ytodlbgncdggimaa
