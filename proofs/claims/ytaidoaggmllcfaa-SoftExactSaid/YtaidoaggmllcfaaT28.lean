/- Contracts of layer 6: exact rows of the reference; equal tables of fractions. -/
import Derived.Test.YtaidoaggmllcfaaT27
namespace Go.Proofs.Ytaidoaggmllcfaa
open Go.RowKit
attribute [local go_sem] GW.cell

set_option maxRecDepth 20000 in
set_option maxHeartbeats 8000000 in
theorem f47_c (a b : Option Addr) (n c m2 c2 : Nat) (t : Tbl) (l : List Int) (w : World) (hl : Table w a t) (hn : t.length = n) (hlen : n ≤ 1000000) (hin : ∀ j, (hj : j < t.length) → t[j].length ≤ 1000000) (hb : Ints w b l) (hm : l.length = m2) (hlen2 : m2 ≤ 1000000) :
    Calls Try.prog 47 #[.slice a n c, .slice b m2 c2] w (RetRR (exV t l) (errOf (rowsOk t l)) w) := by
  have C1 := f18_c a n c t w hl hn hlen hin
  have C2 := fun W (h : Ext w W) => f69_c b m2 c2 l W (hb.ext h) hm hlen2
  unfold valT at C1
  unfold valM at C2
  have hno : rowsOk t l = false → ∀ W, Ext w W → RetRR (exV t l) (errOf (rowsOk t l)) w (.returned (.tuple #[.slice none 0 0, .int .i64 1])) W := fun h W hE => by
    rw [show exV t l = [] by unfold exV; rw [h]; rfl, h]; exact retRR_nil hE
  cases hk1 : tabB 0 1000000 t with
  | false =>
    have Hno := Lib.hid (hno (by unfold rowsOk; rw [hk1]; rfl))
    rw [hk1, show errOf false = 1 from rfl] at C1
    have C1 := Lib.hid C1
    clear hk1 hno C2
    go_enter Try.func47, Try.ntmps47
    go_wp2_with fail
    refine C1.out.mono ?_
    rintro e w1 ⟨rfl, hE1⟩
    go_wp2_with fail
    go_ret2
    exact Hno.out _ hE1
  | true =>
    rw [hk1, show errOf true = 0 from rfl] at C1
    have C1 := Lib.hid C1
    cases hk2 : massB l with
    | false =>
      have Hno := Lib.hid (hno (by unfold rowsOk; rw [hk1, hk2]; rfl))
      rw [hk2, show errOf false = 1 from rfl] at C2
      have C2 := Lib.hid C2
      clear hk1 hk2 hno
      go_enter Try.func47, Try.ntmps47
      go_wp2_with fail
      refine C1.out.mono ?_
      rintro e w1 ⟨rfl, hE1⟩
      go_wp2_with fail
      refine (C2.out _ hE1).mono ?_
      rintro e w' ⟨rfl, rfl⟩
      go_wp2_with fail
      go_ret2
      exact Hno.out _ hE1
    | true =>
      rw [hk2, show errOf true = 0 from rfl] at C2
      have C2 := Lib.hid C2
      by_cases hk3 : l.length = t.length
      case neg =>
        have Hno := Lib.hid (hno (by unfold rowsOk; rw [hk1, hk2]; simp [hk3]))
        have d1 : ((n : Int) != (m2 : Int)) = true := by simp; omega
        clear hk1 hk2 hk3 hno
        go_enter Try.func47, Try.ntmps47
        go_wp2_with fail
        refine C1.out.mono ?_
        rintro e w1 ⟨rfl, hE1⟩
        go_wp2_with fail
        refine (C2.out _ hE1).mono ?_
        rintro e w' ⟨rfl, rfl⟩
        go_wp2_with fail
        go_ret2
        exact Hno.out _ hE1
      have hok : rowsOk t l = true := by unfold rowsOk; rw [hk1, hk2]; simp [hk3]
      rw [show exV t l = exT t l by unfold exV; rw [if_pos hok], hok, show errOf true = 0 from rfl]
      have H0 := tabB_ok hk1
      have hlb := (massB_ok hk2).2.2
      have d1 : ((n : Int) != (m2 : Int)) = false := by simp; omega
      subst hn
      have hn5 := H0.n5
      have hm5 := H0.m5
      have hm1 := H0.m1
      have HT := Lib.hid H0
      have Hlb := Lib.hid hlb
      have Hlm := Lib.hid (hm.symm.trans hk3)
      have Hext : Hid (exT t l = (List.range t.length).map fun i => exTo t l i (row t 0).length) := Lib.hid rfl
      generalize (row t 0).length = M at *
      clear hk1 hk2 hk3 H0 hlb hok hno
      go_enter Try.func47, Try.ntmps47
      go_wp2_with fail
      refine C1.out.mono ?_
      rintro e w1 ⟨rfl, hE1⟩
      clear C1
      go_wp2_with fail
      refine (C2.out _ hE1).mono ?_
      rintro e w' ⟨rfl, rfl⟩
      clear C2
      go_wp2_with fail
      go_loopw [7, 8, 9, 10] (fun v i _ _ wr => ∃ k : Nat, k ≤ t.length ∧ i = .int .i64 k ∧ Ext w1 wr ∧ Hid (OutR wr w1.heap.size v k (fun i => exTo t l i M))) (fun _ i _ _ _ => t.length - (intOf i).toNat)
      case atStart => exact ⟨0, by omega, rfl, Below.refl _ _, OutR.nil _ _ _⟩
      case round =>
        obtain ⟨k, hk, rfl, hE, H⟩ := hrel
        by_cases hlt : k < t.length
        · obtain ⟨b1, o1, a1, c1, rfl, hb1, hc1, hI1⟩ := hl.ext (hE1.trans' hE) k hlt
          rw [← row_at hlt] at hc1 hI1
          have hmk := HT.out.cols k hlt
          rw [hmk] at hc1
          have Hmk := Lib.hid hmk
          have hsb := sm_bd5 HT.out hlt
          have hlk := Hlb.out k (by have := Hlm.out; omega)
          have hkm : k < m2 := by have := Hlm.out; omega
          have Hbk := Lib.hid (fun j (hj : j < M) => HT.out.bd k j hlt hj)
          obtain ⟨wo, rfl⟩ : ∃ wo : World, wo = wr := ⟨_, rfl⟩
          clear hmk
          go_wp2_with fail
          go_loopw [9, 10] (fun v i wr => ∃ q : Nat, q ≤ M ∧ i = .int .i64 q ∧ Ext wo wr ∧ Hid (wr.ownsRow wo.heap.size 46 2 v q (ratV (exTo t l k q)))) (fun _ i _ => M - (intOf i).toNat)
          case atStart => exact ⟨0, Nat.zero_le _, rfl, Below.refl _ _, World.ownsRow_nil _ _ _ _⟩
          case round =>
            obtain ⟨q, hq, rfl, hE3, Hq⟩ := hrel
            have hc1 := (hE3.cell' hb1).trans hc1
            have hb1 := Nat.lt_of_lt_of_le hb1 hE3.size
            by_cases hlq : q < M
            · have hqt : q < (row t k).length := by rw [Hmk.out]; exact hlq
              have hE4 := hE.trans' hE3
              obtain ⟨b2, o2, rfl, hb2, hc2⟩ := hI1.ext hE3 q hqt
              obtain ⟨b3, o3, rfl, hb3, hc3⟩ := hb.ext (hE1.trans' hE4) k (by rw [hm]; exact hkm)
              rw [← gi_at] at hc2 hc3
              have etg : gi (row t k) q = tg t k q := rfl
              rw [etg] at hc2
              have hxb := Hbk.out q hlq
              have hnum := mass_num hxb hlk
              have hmx := mx1_bd hsb
              have C3 := fun W => f79_c (tg t k q * gi l k) (mx1 (sm (row t k))) W ⟨by omega, by omega⟩ ⟨by omega, by omega⟩
              have C4 := Lib.hid (fun W (h : Ext wo W) => f96_c _ M c1 (row t k) W (hI1.ext h) Hmk.out (by omega) (fun j hj => by have := Hbk.out j (by rw [← Hmk.out]; exact hj); unfold tg at this; omega))
              have Hs : Hid (exTo t l k (q + 1) = exTo t l k q ++ [⟨ratN (tg t k q * gi l k) (mx1 (sm (row t k))), ratD (tg t k q * gi l k) (mx1 (sm (row t k)))⟩]) := Lib.hid (exTo_succ t l k q)
              unfold fracV at C3
              generalize hfn : ratN (tg t k q * gi l k) (mx1 (sm (row t k))) = fn at *
              generalize hfd : ratD (tg t k q * gi l k) (mx1 (sm (row t k))) = fd at *
              clear hfn hfd etg hmx
              unfold mx1 at C3
              have C3 := Lib.hid C3
              generalize tg t k q = x at *
              generalize gi l k = y at *
              generalize sm (row t k) = r at *
              by_cases h1r : 1 < r
              · rw [if_pos h1r] at C3
                go_wp2_with fail
                refine wp_region_ext_tail1 20 (by kernel_rfl) (by kernel_rfl) (by rfl) (by rfl) (fun _ _ _ h => h) ?_
                simp only [List.take_succ_cons, List.take_zero, List.drop_succ_cons, List.drop_zero]
                go_simp
                repeat (go_big_quiet_step (first | (go_at_call 79; exact quiet_ext (C3.out _)) | (go_at_call 96; exact quiet_same (C4.out _ (hE3.trans' (GW.ext _))))))
                refine wpQuiet_nil ?_
                intro w5 hE5
                have hE6 := hE3.trans' hE5
                have hsz6 := hE6.size
                have Hq5 := Lib.hid (row_ext Hq.out hE5)
                clear hc1 hc2 hc3 C3 C4
                obtain ⟨i0, j1, j2, j3, j4⟩ := info46'
                have Hrd := Lib.hid (reads_rats (rats_new1 w5 ⟨fn, fd⟩ 46))
                go_wp2_with (at_builtin; refine wpList_append_any _ rfl (.tmp 41) (.tmp 61) 91 rfl wo.heap.size 46 i0 _ 2 16 Try.underlying91 j1 j2 j3 j4 rfl (by omega) _ q _ rfl (Lib.hid (World.ownsRow.alloc Hq5.out _)).out _ (some ⟨w5.heap.size, 0, none⟩) 1 1 (ratV [⟨fn, fd⟩]) rfl Hrd.out (ratV_one_cell _) (by unfold maxLen; omega) (by omega) (by simp; omega) ?_; intro v' w10 hown hgrow hat; have hE20 := ext_append hE6 Hq5.out (Nat.le_refl _) hgrow; have H20 : Hid (w10.ownsRow wo.heap.size 46 2 v' (q + 1) (ratV (exTo t l k (q + 1)))) := (by rw [Hs.out, ratV_append]; exact hown); clear hat hgrow hown)
                go_roundw
                case rel => exact ⟨q + 1, by omega, by go_num, hE20, H20⟩
                case measure => simp [intOf]; omega
              · rw [if_neg h1r] at C3
                go_wp2_with fail
                refine wp_region_ext_tail1 20 (by kernel_rfl) (by kernel_rfl) (by rfl) (by rfl) (fun _ _ _ h => h) ?_
                simp only [List.take_succ_cons, List.take_zero, List.drop_succ_cons, List.drop_zero]
                go_simp
                repeat (go_big_quiet_step (first | (go_at_call 79; exact quiet_ext (C3.out _)) | (go_at_call 96; exact quiet_same (C4.out _ (hE3.trans' (GW.ext _))))))
                refine wpQuiet_nil ?_
                intro w5 hE5
                have hE6 := hE3.trans' hE5
                have hsz6 := hE6.size
                have Hq5 := Lib.hid (row_ext Hq.out hE5)
                clear hc1 hc2 hc3 C3 C4
                obtain ⟨i0, j1, j2, j3, j4⟩ := info46'
                have Hrd := Lib.hid (reads_rats (rats_new1 w5 ⟨fn, fd⟩ 46))
                go_wp2_with (at_builtin; refine wpList_append_any _ rfl (.tmp 41) (.tmp 61) 91 rfl wo.heap.size 46 i0 _ 2 16 Try.underlying91 j1 j2 j3 j4 rfl (by omega) _ q _ rfl (Lib.hid (World.ownsRow.alloc Hq5.out _)).out _ (some ⟨w5.heap.size, 0, none⟩) 1 1 (ratV [⟨fn, fd⟩]) rfl Hrd.out (ratV_one_cell _) (by unfold maxLen; omega) (by omega) (by simp; omega) ?_; intro v' w10 hown hgrow hat; have hE20 := ext_append hE6 Hq5.out (Nat.le_refl _) hgrow; have H20 : Hid (w10.ownsRow wo.heap.size 46 2 v' (q + 1) (ratV (exTo t l k (q + 1)))) := (by rw [Hs.out, ratV_append]; exact hown); clear hat hgrow hown)
                go_roundw
                case rel => exact ⟨q + 1, by omega, by go_num, hE20, H20⟩
                case measure => simp [intOf]; omega
            · obtain rfl : q = M := by omega
              have hE4 := hE.trans' hE3
              obtain ⟨a8, c8, rfl⟩ := slice_form Hq.out
              obtain ⟨A, C, h1, h2⟩ := H.out
              have hsz := hE3.size
              have hsz0 := hE.size
              have H1' := Lib.hid (row_ext h1 hE3)
              have H1 := Lib.hid h1
              have H2 := Lib.hid h2
              clear h1 h2 H
              go_wp2_with (at_builtin; refine wpList_push rfl (.tmp 63) (.tmp 65) 41 rfl infoS91 Try.underlying41 rfl rfl rfl (by simp [Value.oneCell']) H1'.out (by omega) (by omega) (by omega) ?_; intro v' w' hown hP)
              go_roundw
              case rel => exact ⟨k + 1, by omega, by go_num, hP.ext hE4 H1'.out (Nat.le_refl _), Lib.hid (OutR.push H1.out H2.out hE3 Hq.out (Nat.le_refl _) (by simp [exTo]) (by omega) hP hown)⟩
              case measure => simp [intOf]; omega
        · obtain rfl : k = t.length := by omega
          obtain ⟨a8, c8, rfl, hRT⟩ := OutR.read H.out
          have HRT := Lib.hid hRT
          clear hRT H
          go_wp2_with fail
          go_ret2
          rw [Hext.out]
          exact ⟨a8, c8, by simp, HRT.out, hE1.trans' hE⟩

set_option maxHeartbeats 4000000 in
theorem f50_c (a b : Option Addr) (n c d : Nat) (t : List (List Rat)) (w : World) (hl : RatT w a t) (hk : RatT w b t) (hn : t.length = n) (hlen : n ≤ 1000000) (hin : ∀ j, (hj : j < t.length) → t[j].length ≤ 1000000) :
    Calls Try.prog 50 #[.slice a n c, .slice b n d] w fun e w' => e = .returned (.bool true) ∧ Ext w w' := by
  subst hn
  have Hin := Lib.hid hin
  clear hin
  go_enter Try.func50, Try.ntmps50
  go_wp2_with fail
  go_loopw [5, 6] (fun i _ wr => ∃ k : Nat, k ≤ t.length ∧ i = .int .i64 k ∧ Ext w wr) (fun i _ _ => t.length - (intOf i).toNat)
  case atStart => exact ⟨0, Nat.zero_le _, rfl, Below.refl _ _⟩
  case round =>
    obtain ⟨k, hk', rfl, hE⟩ := hrel
    rename World => wk
    by_cases hlt : k < t.length
    · obtain ⟨b1, o1, a1, c1, rfl, hb1, hc1, hI1⟩ := hl.ext hE k hlt
      obtain ⟨b2, o2, a2, c2, rfl, hb2, hc2, hI2⟩ := hk.ext hE k hlt
      have hM := Hin.out k hlt
      have hd : ((t[k].length : Int) != (t[k].length : Int)) = false := by simp
      generalize t[k] = L at *
      go_wp2_with fail
      refine wp_region_ext (by kernel_rfl) (by kernel_rfl) ?_
      repeat (go_big_quiet_step (fail))
      refine wpQuiet_nil ?_
      intro w2 hE2
      go_wp2_with fail
      go_loopw [6] (fun i wr => ∃ q : Nat, q ≤ L.length ∧ i = .int .i64 q ∧ Ext wk wr) (fun i _ => L.length - (intOf i).toNat)
      case atStart => exact ⟨0, Nat.zero_le _, rfl, hE2⟩
      case round =>
        obtain ⟨q, hq, rfl, hE3⟩ := hrel
        have hc1 := (hE3.cell' hb1).trans hc1
        have hc2 := (hE3.cell' hb2).trans hc2
        have hb1 := Nat.lt_of_lt_of_le hb1 hE3.size
        have hb2 := Nat.lt_of_lt_of_le hb2 hE3.size
        by_cases hlq : q < L.length
        · obtain ⟨b3, o3, rfl, hb3, x1, x2⟩ := hI1.ext hE3 q hlq
          obtain ⟨b4, o4, rfl, hb4, y1, y2⟩ := hI2.ext hE3 q hlq
          generalize L[q] = R at *
          obtain ⟨rn, rd⟩ := R
          dsimp only at x1 x2 y1 y2
          go_wp2_with fail
          refine wp_region_ext (by kernel_rfl) (by kernel_rfl) ?_
          repeat (go_big_quiet_step (fail))
          refine wpQuiet_nil ?_
          intro w4 hE4
          clear hc1 hc2 x1 x2 y1 y2
          go_wp2_with fail
          go_roundw
          case rel => exact ⟨q + 1, by omega, by go_num, hE3.trans' hE4⟩
          case measure => simp [intOf]; omega
        · obtain rfl : q = L.length := by omega
          go_wp2_with fail
          go_roundw
          case rel => exact ⟨k + 1, by omega, by go_num, hE.trans' hE3⟩
          case measure => simp [intOf]; omega
    · obtain rfl : k = t.length := by omega
      go_wp2_with fail
      go_ret
      exact ⟨rfl, hE⟩

end Go.Proofs.Ytaidoaggmllcfaa
