/- The law of soft plans, walked. -/
import Derived.Test.YtaidoaggmllcfaaT22
import Derived.Test.YtaidoaggmllcfaaLRep
namespace Go.Proofs.Ytaidoaggmllcfaa
open Go.RowKit
attribute [local go_sem] GW.cell

theorem soft_law {x y : List Int} {t : Tbl} {s r : Int} (h : softErr x y t s r = 0) : kerErr t s = 0 ∧ kernelV t s = kernelT t s ∧ errOf (fitOk (kernelT t s) x y r) = 0 ∧ fitV (kernelT t s) x y r = fitN x.length y.length x y (kernelT t s) r.toNat ∧
    grErr x y (fitN x.length y.length x y (kernelT t s) r.toNat) = 0 ∧ repairV x y (fitN x.length y.length x y (kernelT t s) r.toNat) = softV x y t s r ∧ TOk x.length y.length 0 1000000 (kernelT t s) ∧ TOk x.length y.length 0 30000 (fitN x.length y.length x y (kernelT t s) r.toNat) := by
  have h0 : fitsErr x y t = 0 := by
    unfold softErr at h
    split at h
    · assumption
    · exact h
  have hb : withinB s 1 99 = true ∧ withinB r 1 10 = true := by
    unfold softErr at h
    rw [if_pos h0] at h
    have := errOf_zero.1 h
    simpa using this
  obtain ⟨g1, g2, g3, g4, g5, g6⟩ := fitsErr_ok h0
  have hs := withinB_iff.1 hb.1
  have hr := withinB_iff.1 hb.2
  have hxb := (massB_ok g1).2.2
  have hyb := (massB_ok g2).2.2
  have hk := kernelT_ok g3 hs
  rw [g4, g5] at hk
  have hf := fitN_ok2 hk hxb hyb (k := r.toNat) (by omega)
  have hko : kerOk t s = true := by simp [kerOk, g3, hb.1]
  have hk0 := hk.cols 0 (by have := hk.n1; omega)
  have hfo : fitOk (kernelT t s) x y r = true := by
    unfold fitOk
    rw [tabB_of hk, g1, g2, hb.2]
    simp [hk.len, hk0]
  have hgr : grErr x y (fitN x.length y.length x y (kernelT t s) r.toNat) = 0 := grErr_of g1 g2 g6 (hf.weak (by omega))
  refine ⟨by unfold kerErr; rw [hko]; rfl, by unfold kernelV; rw [if_pos hko], by rw [hfo]; rfl, ?_, hgr, ?_, hk, hf⟩
  · unfold fitV
    rw [if_pos hfo, hk.len, hk0]
  · unfold repairV softV
    rw [if_pos hgr, if_pos h]
set_option maxRecDepth 20000 in
set_option maxHeartbeats 8000000 in
theorem softs_walk (w : World) (ax : Option Addr) (na ca : Nat) (x : List Int) (hx : Ints w ax x) (hxn : x.length = na) (bx : Option Addr) (nb cb : Nat) (y : List Int) (hy : Ints w bx y) (hyn : y.length = nb)
    (a : Option Addr) (len cap : Nat) (t : Tbl) (hl : Table w a t) (hn : t.length = len) (hlen : len ≤ 9223372036854775807)
    (tb : Option Addr) (lent capt : Nat) (tt : Tbl) (_hlt : Table w tb tt) (_hnt : tt.length = lent) (_hlent : lent ≤ 9223372036854775807) (s r : Int) :
    Calls Try.prog 11 #[.agg #[.slice ax na ca, .slice bx nb cb, .slice a len cap], .agg #[.slice tb lent capt, .int .i64 s, .int .i64 r]] w fun e w' => e = .returned (.bool true) ∧ Below w.heap.size w w' := by
  have hEa := ext_alloc w (.cells #[.slice ax na ca, .slice bx nb cb, .slice a len cap] 51)
  have hEb := ext_alloc (w.alloc (.cells #[.slice ax na ca, .slice bx nb cb, .slice a len cap] 51)) (.cells #[.slice tb lent capt, .int .i64 s, .int .i64 r] 53)
  have hE0 := hEa.trans' hEb
  have HA := Lib.hid ((BlkC.new w #[.slice ax na ca, .slice bx nb cb, .slice a len cap] 51).ext hEb)
  have HB := Lib.hid (BlkC.new (w.alloc (.cells #[.slice ax na ca, .slice bx nb cb, .slice a len cap] 51)) #[.slice tb lent capt, .int .i64 s, .int .i64 r] 53)
  simp only [World.size_alloc] at HB
  have C32 := f32_c ax bx a na ca nb cb len cap t _ (hl.ext hE0) hn hlen
  have ka0 := HA.out.cellv 0 (v := .slice ax na ca) rfl
  have ka1 := HA.out.cellv 1 (v := .slice bx nb cb) rfl
  have ka2 := HA.out.cellv 2 (v := .slice a len cap) rfl
  have kb1 := HB.out.cellv 1 (v := .int .i64 s) rfl
  have kb2 := HB.out.cellv 2 (v := .int .i64 r) rfl
  have lt1 := HA.out.lt
  have lt2 := HB.out.lt
  cases hw : longB na nb t
  case true =>
    rw [hw] at C32
    have C32 := Lib.hid C32
    clear hw
    go_enter Try.func11, Try.ntmps11
    go_wp2_with fail
    generalize (w.alloc (.cells #[.slice ax na ca, .slice bx nb cb, .slice a len cap] 51)).alloc (.cells #[.slice tb lent capt, .int .i64 s, .int .i64 r] 53) = w0 at *
    go_wp2_with fail
    refine C32.out.mono ?_
    rintro e w1 ⟨rfl, hE1⟩
    go_wp2_with fail
    refine (f14_c _).mono ?_
    rintro e w2 ⟨rfl, hE2⟩
    go_wp2_with fail
    go_ret
    exact ⟨rfl, hE0.trans' (hE1.trans' hE2)⟩
  rw [hw] at C32
  have C32 := Lib.hid C32
  simp only [longB, Bool.or_eq_false_iff, decide_eq_false_iff_not] at hw
  obtain ⟨hna, hnb, hw1⟩ := hw
  obtain ⟨h1, hin⟩ := wide_in hw1
  have C33 := fun W (h : Ext w W) => f33_c ax bx a na nb len cap ca cb x y t s r W (hx.ext h) hxn (by omega) (hy.ext h) hyn (by omega) (hl.ext h) hn (by omega) hin
  have C15 := fun W (h : Ext w W) => f15_c a len cap t s W (hl.ext h) hn (by omega) hin
  by_cases he : softErr x y t s r = 0
  case neg =>
    have de : (softErr x y t s r != 0) = true := by simp [he]
    have C33 := Lib.hid C33
    clear he hna hnb hw1 h1 hin C15 hn hxn hyn
    generalize softErr x y t s r = E at *
    generalize softV x y t s r = V at *
    go_enter Try.func11, Try.ntmps11
    go_wp2_with fail
    generalize (w.alloc (.cells #[.slice ax na ca, .slice bx nb cb, .slice a len cap] 51)).alloc (.cells #[.slice tb lent capt, .int .i64 s, .int .i64 r] 53) = w0 at *
    go_wp2_with fail
    refine C32.out.mono ?_
    rintro e w1 ⟨rfl, hE1⟩
    clear ka0 ka1 ka2 kb1 kb2 C32 lt1 lt2
    have ka0 := (HA.out.ext hE1).cellv 0 (v := .slice ax na ca) rfl
    have ka1 := (HA.out.ext hE1).cellv 1 (v := .slice bx nb cb) rfl
    have ka2 := (HA.out.ext hE1).cellv 2 (v := .slice a len cap) rfl
    have kb1 := (HB.out.ext hE1).cellv 1 (v := .int .i64 s) rfl
    have kb2 := (HB.out.ext hE1).cellv 2 (v := .int .i64 r) rfl
    go_wp2_with fail
    refine (C33.out _ (hE0.trans' hE1)).mono ?_
    rintro e w2 hR
    obtain ⟨a2, c2, rfl, _, hE2⟩ := hR.open_
    clear hR
    go_wp2_with fail
    refine (f14_c _).mono ?_
    rintro e w3 ⟨rfl, hE3⟩
    go_wp2_with fail
    go_ret
    exact ⟨rfl, hE0.trans' (hE1.trans' (hE2.trans' hE3))⟩
  obtain ⟨l1, l2, l3, l4, l5, l6, l7, l8⟩ := soft_law he
  rw [he] at C33
  rw [l1, l2] at C15
  have hk1 : (kernelT t s).length ≤ 1000000 := by rw [l7.len]; omega
  have hk2 : ∀ j, (hj : j < (kernelT t s).length) → (kernelT t s)[j].length ≤ 1000000 := fun j hj => by rw [← row_at hj, l7.cols j (by rw [← l7.len]; exact hj)]; have := l7.m5; omega
  have hf1 : (fitN x.length y.length x y (kernelT t s) r.toNat).length ≤ 1000000 := by rw [l8.len]; omega
  have hf2 : ∀ j, (hj : j < (fitN x.length y.length x y (kernelT t s) r.toNat).length) → (fitN x.length y.length x y (kernelT t s) r.toNat)[j].length ≤ 1000000 := fun j hj => by rw [← row_at hj, l8.cols j (by rw [← l8.len]; exact hj)]; have := l8.m5; omega
  have C27 := fun A c W (h1 : Table W A (kernelT t s)) (h : Ext w W) => f27_c A ax bx (kernelT t s).length c na ca nb cb (kernelT t s) x y r W h1 rfl hk1 hk2 (hx.ext h) hxn (by omega) (hy.ext h) hyn (by omega)
  rw [l3, l4] at C27
  have C51 := fun A c W (h1 : Table W A (fitN x.length y.length x y (kernelT t s) r.toNat)) (h : Ext w W) => f51_c ax bx A na nb (fitN x.length y.length x y (kernelT t s) r.toNat).length c ca cb x y _ W (hx.ext h) hxn (by omega) (hy.ext h) hyn (by omega) h1 rfl hf1 hf2
  rw [l5, l6] at C51
  obtain ⟨hr1, hr2⟩ := repairV_small x y (fitN x.length y.length x y (kernelT t s) r.toNat)
  rw [l6] at hr1
  simp only [l6] at hr2
  have C19 := Lib.hid (fun A1 A2 c1 c2 W (h1 : Table W A1 (softV x y t s r)) (h2 : Table W A2 (softV x y t s r)) => f19_c A1 A2 (softV x y t s r).length c1 (softV x y t s r).length c2 (softV x y t s r) (softV x y t s r) W h1 h2 rfl rfl hr1 hr1 hr2 hr2)
  rw [sameT_rfl] at C19
  have C33 := Lib.hid C33
  have C15 := Lib.hid C15
  have C27 := Lib.hid C27
  have C51 := Lib.hid C51
  clear he hna hnb hw1 h1 hin hn hxn hyn l1 l2 l3 l4 l5 l6 l7 l8 hk1 hk2 hf1 hf2 hr1 hr2
  generalize softV x y t s r = V at *
  generalize fitN x.length y.length x y (kernelT t s) r.toNat = FF at *
  generalize kernelT t s = K at *
  go_enter Try.func11, Try.ntmps11
  go_wp2_with fail
  generalize (w.alloc (.cells #[.slice ax na ca, .slice bx nb cb, .slice a len cap] 51)).alloc (.cells #[.slice tb lent capt, .int .i64 s, .int .i64 r] 53) = w0 at *
  go_wp2_with fail
  refine C32.out.mono ?_
  rintro e w1 ⟨rfl, hE1⟩
  have ka0 := (HA.out.ext hE1).cellv 0 (v := .slice ax na ca) rfl
  have ka1 := (HA.out.ext hE1).cellv 1 (v := .slice bx nb cb) rfl
  have ka2 := (HA.out.ext hE1).cellv 2 (v := .slice a len cap) rfl
  have kb1 := (HB.out.ext hE1).cellv 1 (v := .int .i64 s) rfl
  have kb2 := (HB.out.ext hE1).cellv 2 (v := .int .i64 r) rfl
  go_wp2_with fail
  refine (C33.out _ (hE0.trans' hE1)).mono ?_
  rintro e w2 hR
  obtain ⟨a2, c2, rfl, hT2, hX2⟩ := hR.open_
  have HT2 := Lib.hid hT2
  clear hR hT2
  have hE2 := hE1.trans' hX2
  have ka0 := (HA.out.ext hE2).cellv 0 (v := .slice ax na ca) rfl
  have ka1 := (HA.out.ext hE2).cellv 1 (v := .slice bx nb cb) rfl
  have ka2 := (HA.out.ext hE2).cellv 2 (v := .slice a len cap) rfl
  have kb1 := (HB.out.ext hE2).cellv 1 (v := .int .i64 s) rfl
  have kb2 := (HB.out.ext hE2).cellv 2 (v := .int .i64 r) rfl
  go_wp2_with fail
  refine (C15.out _ (hE0.trans' hE2)).mono ?_
  rintro e w3 hR
  obtain ⟨a3, c3, rfl, hT3, hX3⟩ := hR.open_
  have HT3 := Lib.hid hT3
  clear hR hT3
  have hE3 := hE2.trans' hX3
  have ka0 := (HA.out.ext hE3).cellv 0 (v := .slice ax na ca) rfl
  have ka1 := (HA.out.ext hE3).cellv 1 (v := .slice bx nb cb) rfl
  have kb2 := (HB.out.ext hE3).cellv 2 (v := .int .i64 r) rfl
  go_wp2_with fail
  refine (C27.out _ _ _ HT3.out (hE0.trans' hE3)).mono ?_
  rintro e w4 ⟨a4, c4, rfl, hT4, hX4⟩
  have HT4 := Lib.hid hT4
  clear hT4
  have hE4 := hE3.trans' hX4
  have ka0 := (HA.out.ext hE4).cellv 0 (v := .slice ax na ca) rfl
  have ka1 := (HA.out.ext hE4).cellv 1 (v := .slice bx nb cb) rfl
  go_wp2_with fail
  refine (C51.out _ _ _ HT4.out (hE0.trans' hE4)).mono ?_
  rintro e w5 hR
  obtain ⟨a5, c5, rfl, hT5, hX5⟩ := hR.open_
  have HT5 := Lib.hid hT5
  clear hR hT5
  have hE5 := hE4.trans' hX5
  go_wp2_with fail
  refine (C19.out _ _ _ _ _ (HT2.out.ext (hX3.trans' (hX4.trans' hX5))) HT5.out).mono ?_
  rintro e w6 ⟨rfl, hX6⟩
  go_wp2_with fail
  refine (f14_c _).mono ?_
  rintro e w7 ⟨rfl, hX7⟩
  go_wp2_with fail
  go_ret
  exact ⟨rfl, hE0.trans' (hE5.trans' (hX6.trans' hX7))⟩

end Go.Proofs.Ytaidoaggmllcfaa
