/- The law of kernels, walked. -/
import Derived.Test.YtaidoaggmllcfaaT7
namespace Go.Proofs.Ytaidoaggmllcfaa
open Go.RowKit
attribute [local go_sem] GW.cell

set_option maxRecDepth 20000 in
set_option maxHeartbeats 4000000 in
theorem kernels_walk (w : World) (a : Option Addr) (len cap : Nat) (t : Tbl) (hl : Table w a t) (hn : t.length = len) (hlen : len ≤ 9223372036854775807) (s : Int) :
    Calls Try.prog 3 #[.slice a len cap, .int .i64 s] w fun e w' => e = .returned (.bool true) ∧ Below w.heap.size w w' := by
  have C13 := f13_c a len cap t w hl hn hlen
  cases hw : wideB t
  · obtain ⟨h50, hc50⟩ := wideB_no hw
    have hin : ∀ j, (hj : j < t.length) → t[j].length ≤ 1000000 := fun j hj => by have := hc50 j hj; omega
    have h1 : len ≤ 1000000 := by omega
    rw [hw] at C13
    have C13 := Lib.hid C13
    have hkl : (kernelV t s).length ≤ 1000000 := by
      unfold kernelV; split
      · unfold kernelT; rw [mk_len]; omega
      · simp
    have hkc : ∀ j, (hj : j < (kernelV t s).length) → (kernelV t s)[j].length ≤ 1000000 := fun j hj => by
      by_cases hk : kerOk t s = true
      · have e : kernelV t s = kernelT t s := by unfold kernelV; rw [if_pos hk]
        have hj2 := hj
        rw [← row_at hj]
        rw [e] at hj ⊢
        unfold kernelT at hj ⊢
        rw [mk_len] at hj
        rw [mk_cols _ hj]
        simp only [kerOk, Bool.and_eq_true] at hk
        have := (tabB_ok hk.1).m5; omega
      · have e : kernelV t s = [] := by unfold kernelV; rw [if_neg hk]
        rw [e] at hj; simp at hj
    have Hin := Lib.hid hin
    have Hkc := Lib.hid hkc
    clear hin hkc hc50
    go_enter Try.func3, Try.ntmps3
    go_wp2_with (go_at_call 13; refine C13.out.mono ?_; rintro e w' ⟨rfl, rfl⟩)
    refine (f15_c _ _ _ t s _ hl hn h1 Hin.out).mono ?_
    rintro e w1 hR
    obtain ⟨a1, c1, rfl, hT1, hE1⟩ := hR.open_
    clear hR
    go_wp2_with fail
    refine (f16_c _ _ _ t s _ (hl.ext hE1) hn h1 Hin.out).mono ?_
    rintro e w2 hR
    obtain ⟨a2, c2, rfl, hT2, hX2⟩ := hR.open_
    have hE2 := hE1.trans' hX2
    have hT1 := hT1.ext hX2
    clear hR
    generalize kernelV t s = K at *
    generalize kerErr t s = E at *
    go_wp2_with fail
    refine (f17_c _ _ _ t _ (hl.ext hE2) hn h1 Hin.out).mono ?_
    rintro e w3 ⟨rfl, hX3⟩
    have hE3 := hE2.trans' hX3
    have hT1 := hT1.ext hX3
    have hT2 := hT2.ext hX3
    go_wp2_with fail
    refine (f18_c _ _ _ t _ (hl.ext hE3) hn h1 Hin.out).mono ?_
    rintro e w4 ⟨rfl, hX4⟩
    have hE4 := hE3.trans' hX4
    have hT1 := hT1.ext hX4
    have hT2 := hT2.ext hX4
    generalize valT 1000000 t = V at *
    go_wp2_with fail
    refine (f19_c _ _ _ _ _ _ K K _ hT1 hT2 rfl rfl hkl hkl Hkc.out Hkc.out).mono ?_
    rintro e w5 ⟨rfl, hX5⟩
    rw [sameT_rfl]
    have hE5 := hE4.trans' hX5
    go_wp2_with fail
    refine (f14_c _).mono ?_
    rintro e w6 ⟨rfl, hX6⟩
    have hE6 := hE5.trans' hX6
    go_wp2_with fail
    go_ret
    exact ⟨rfl, hE6⟩
  · rw [hw] at C13
    have C13 := Lib.hid C13
    go_enter Try.func3, Try.ntmps3
    go_wp2_with (go_at_call 13; refine C13.out.mono ?_; rintro e w' ⟨rfl, rfl⟩)
    refine (f14_c _).mono ?_
    rintro e w1 ⟨rfl, hE1⟩
    go_wp2_with fail
    go_ret
    exact ⟨rfl, hE1⟩

end Go.Proofs.Ytaidoaggmllcfaa
