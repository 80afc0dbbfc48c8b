/- Contracts of the reference: power, least. -/
import Derived.Test.YtodlbgncdggimaaT16
namespace Go.Proofs.Ytodlbgncdggimaa
open Go.RowKit
attribute [local go_sem] GW.cell

def pxx (wd k : Nat) : Int := (k : Int) % (wd : Int)
def pxy (wd k : Nat) : Int := (k : Int) / (wd : Int)

theorem pix_in2 {wd k : Nat} (hw1 : 1 ≤ wd) (hw2 : wd ≤ 12) (hk : k < 144) : Inside (pxx wd k) (pxy wd k) ∧ 0 ≤ pxx wd k ∧ 0 ≤ pxy wd k ∧ pxx wd k < wd ∧ pxy wd k ≤ k := by
  have h1 : 0 ≤ (k : Int) % (wd : Int) := Int.emod_nonneg _ (by omega)
  have h2 : (k : Int) % (wd : Int) < (wd : Int) := Int.emod_lt_of_pos _ (by omega)
  have h3 : 0 ≤ (k : Int) / (wd : Int) := Int.ediv_nonneg (by omega) (by omega)
  have h4 : (k : Int) / (wd : Int) ≤ (k : Int) := Int.ediv_le_self _ (by omega)
  unfold Inside pxx pxy; omega

theorem pow_bd {s : Site} {x y : Int} (h : Near s x y) : -20000 ≤ pow s x y ∧ pow s x y ≤ 2141800 := by
  have h1 := sq_bd h
  have h2 := okSite_bd h.1
  unfold pow; omega

set_option maxHeartbeats 1000000 in
theorem f67_c (s : Site) (wd k : Nat) (w : World) (hs : okSite s = true) (hw1 : 1 ≤ wd) (hw2 : wd ≤ 12) (hk : k < 144) :
    Calls Try.prog 67 #[sv s, .int .i64 wd, .int .i64 k] w fun e w' => e = .returned (.int .i64 (pow s (pxx wd k) (pxy wd k))) ∧ Ext w w' := by
  obtain ⟨hin, h1, h2, h3, h4⟩ := pix_in2 hw1 hw2 hk
  have hnear : Near s (pxx wd k) (pxy wd k) := ⟨hs, hin⟩
  have hsb := sq_bd hnear
  have hb := okSite_bd hs
  have hw0 : (wd : Int) ≠ 0 := by omega
  have ht1 : Int.tmod (k : Int) (wd : Int) = pxx wd k := Int.tmod_eq_emod_of_nonneg (by omega)
  have ht2 : Int.tdiv (k : Int) (wd : Int) = pxy wd k := Int.tdiv_eq_ediv_of_nonneg (by omega)
  have hq : IntKind.i64.wrap (pxy wd k) = pxy wd k := IntWalk.i64_in _ (by omega)
  have hq2 : IntKind.i64.wrap (sq s (pxx wd k) (pxy wd k) - s.w) = pow s (pxx wd k) (pxy wd k) := IntWalk.i64_in _ (by omega)
  go_enter Try.func67, Try.ntmps67
  go_wp2_with fail
  refine wp_region_ext (by kernel_rfl) (by kernel_rfl) ?_
  repeat (go_big_quiet_step ((go_at_call 61; exact quiet_ext (f61_c _ _ _ _ hnear))))
  refine wpQuiet_nil ?_
  intro w1 hE1
  go_wp2_with fail
  go_ret
  exact ⟨rfl, (ext_alloc _ _).trans' hE1⟩

/-- how many of the first k numbers of L are v -/
def cntTo (L : List Int) (v : Int) : Nat → Nat
  | 0 => 0
  | k + 1 => cntTo L v k + (if L[k]?.getD 0 = v then 1 else 0)
def pows (l : List Site) (x y : Int) : List Int := l.map fun s => pow s x y
def cntP (l : List Site) (x y : Int) : Nat := cntTo (pows l x y) (leastP l x y) l.length

theorem cntTo_le (L : List Int) (v : Int) : ∀ k, cntTo L v k ≤ k
  | 0 => Nat.le_refl _
  | k + 1 => by have := cntTo_le L v k; unfold cntTo; split <;> omega

theorem minTo_pows {l : List Site} {x y : Int} {k : Nat} (h : 1 ≤ k) (hk : k < l.length) : minTo (pows l x y) (k + 1) = if pow l[k] x y < minTo (pows l x y) k then pow l[k] x y else minTo (pows l x y) k := by
  have e : (pows l x y)[k]'(by simpa [pows] using hk) = pow l[k] x y := by simp [pows]
  rw [minTo_succ _ h (by simpa [pows] using hk), e]
theorem minTo_pows_bd {l : List Site} {x y : Int} (hok : okSites l = true) (hin : Inside x y) (k : Nat) (h : 1 ≤ k) (hk : k ≤ l.length) : -20000 ≤ minTo (pows l x y) k ∧ minTo (pows l x y) k ≤ 2141800 := by
  obtain ⟨_, j, hj, e⟩ := minTo_spec (pows l x y) k h (by simpa [pows] using hk)
  rw [← e, pows, map_pow_at, pw_in (by omega)]
  exact pow_bd ⟨okSites_at hok (by omega), hin⟩
theorem cntTo_pows {l : List Site} {x y v : Int} {k : Nat} (hk : k < l.length) : cntTo (pows l x y) v (k + 1) = cntTo (pows l x y) v k + (if pow l[k] x y = v then 1 else 0) := by
  rw [cntTo, pows, map_pow_at, pw_in hk]

set_option maxHeartbeats 2000000 in
theorem f66_c (a : Option Addr) (n c : Nat) (l : List Site) (wd k : Nat) (w : World) (hl : Sites w a l) (hn : l.length = n) (hok : okSites l = true) (hw1 : 1 ≤ wd) (hw2 : wd ≤ 12) (hk : k < 144) :
    Calls Try.prog 66 #[.slice a n c, .int .i64 wd, .int .i64 k] w fun e w' => e = .returned (.tuple #[.int .i64 (leastP l (pxx wd k) (pxy wd k)), .int .i64 (cntP l (pxx wd k) (pxy wd k))]) ∧ Ext w w' := by
  subst hn
  have hin := (pix_in2 hw1 hw2 hk).1
  have hl5 := okSites_len hok
  have hlow : leastP l (pxx wd k) (pxy wd k) = minTo (pows l (pxx wd k) (pxy wd k)) l.length := rfl
  have hbd := minTo_pows_bd hok hin
  rw [cntP, hlow]
  have hst := fun i (h : i < l.length) => okSites_at hok h
  have Hst := Lib.hid hst
  have Hbd := Lib.hid hbd
  obtain ⟨b, off, rfl, hb0, hcx, hcy, hcw⟩ := hl 0 (by omega)
  simp only [Nat.zero_mul, Nat.add_zero] at hcx hcy hcw
  have h0 := Hst.out 0 (by omega)
  have hm1 : minTo (pows l (pxx wd k) (pxy wd k)) 1 = pow l[0] (pxx wd k) (pxy wd k) := by rw [minTo_one, pows, map_pow_at, pw_in (by omega)]
  have Hm1 := Lib.hid hm1
  clear hok hlow hst hbd hm1
  go_enter Try.func66, Try.ntmps66
  go_wp2_with fail
  refine (f67_c l[0] wd k w h0 hw1 hw2 hk).mono ?_
  rintro e w1 ⟨rfl, hE1⟩
  clear hcx hcy hcw h0
  go_wp2_with fail
  go_loopw [8, 10] (fun v i wr => ∃ q : Nat, 1 ≤ q ∧ q ≤ l.length ∧ i = .int .i64 q ∧ v = .int .i64 (minTo (pows l (pxx wd k) (pxy wd k)) q) ∧ Ext w wr) (fun _ i _ => l.length - (intOf i).toNat)
  case atStart => exact ⟨1, by omega, by omega, rfl, by rw [Hm1.out], hE1⟩
  case round =>
    obtain ⟨q, hq1, hq, rfl, rfl, hE⟩ := hrel
    have hmb := Hbd.out q hq1 hq
    by_cases hlt : q < l.length
    · have hms := minTo_pows (x := pxx wd k) (y := pxy wd k) hq1 hlt
      have Hms := Lib.hid hms
      obtain ⟨b1, o1, he1, hb1, hcx, hcy, hcw⟩ := hl.ext hE q hlt
      simp only [Option.some.injEq, Addr.mk.injEq] at he1
      obtain ⟨rfl, rfl, -⟩ := he1
      clear hms
      go_wp2_with fail
      refine (f67_c l[q] wd k _ (Hst.out q hlt) hw1 hw2 hk).mono ?_
      rintro e w2 ⟨rfl, hE2⟩
      go_wp2_with fail
      go_roundw
      case rel => exact ⟨q + 1, by omega, by omega, by go_num, by rw [Hms.out], hE.trans' hE2⟩
      case measure => simp [intOf]; omega
    · obtain rfl : q = l.length := by omega
      generalize hlo : minTo (pows l (pxx wd k) (pxy wd k)) l.length = low at *
      have Hlo := Lib.hid hlo
      clear hlo
      go_wp2_with fail
      go_loopw [9, 11] (fun v i wr => ∃ q : Nat, q ≤ l.length ∧ i = .int .i64 q ∧ v = .int .i64 (cntTo (pows l (pxx wd k) (pxy wd k)) low q) ∧ Ext w wr) (fun _ i _ => l.length - (intOf i).toNat)
      case atStart => exact ⟨0, by omega, rfl, rfl, hE⟩
      case round =>
        obtain ⟨q, hq, rfl, rfl, hE2⟩ := hrel
        have hcb := cntTo_le (pows l (pxx wd k) (pxy wd k)) low q
        by_cases hlt : q < l.length
        · have hms := cntTo_pows (x := pxx wd k) (y := pxy wd k) (v := low) hlt
          obtain ⟨b1, o1, he1, hb1, hcx, hcy, hcw⟩ := hl.ext hE2 q hlt
          simp only [Option.some.injEq, Addr.mk.injEq] at he1
          obtain ⟨rfl, rfl, -⟩ := he1
          by_cases heq : pow l[q] (pxx wd k) (pxy wd k) = low
          · rw [if_pos heq] at hms
            have hb : (pow l[q] (pxx wd k) (pxy wd k) == low) = true := by simp [heq]
            have Hms := Lib.hid hms
            clear hms heq
            go_wp2_with fail
            refine (f67_c l[q] wd k _ (Hst.out q hlt) hw1 hw2 hk).mono ?_
            rintro e w2 ⟨rfl, hE3⟩
            go_wp2_with fail
            go_roundw
            case rel => exact ⟨q + 1, by omega, by go_num, by rw [Hms.out]; go_num, hE2.trans' hE3⟩
            case measure => simp [intOf]; omega
          · rw [if_neg heq] at hms
            have hb : (pow l[q] (pxx wd k) (pxy wd k) == low) = false := by simp [heq]
            have Hms := Lib.hid hms
            clear hms heq
            go_wp2_with fail
            refine (f67_c l[q] wd k _ (Hst.out q hlt) hw1 hw2 hk).mono ?_
            rintro e w2 ⟨rfl, hE3⟩
            go_wp2_with fail
            go_roundw
            case rel => exact ⟨q + 1, by omega, by go_num, by rw [Hms.out]; rfl, hE2.trans' hE3⟩
            case measure => simp [intOf]; omega
        · obtain rfl : q = l.length := by omega
          go_wp2_with fail
          go_ret2
          exact ⟨by rw [Hlo.out]; rfl, hE2⟩
end Go.Proofs.Ytodlbgncdggimaa
