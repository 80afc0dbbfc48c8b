/- Contracts: cost, of the program and of the reference. -/
import Derived.Test.YtodlbgncdggimaaT22
namespace Go.Proofs.Ytodlbgncdggimaa
open Go.RowKit
attribute [local go_sem] GW.cell Oper.semAt_some wide_depth

def sqAt (l : List Site) (x y : Int) (i : Nat) : Int := match l[i]? with | some s => sq s x y | none => 0
theorem sqAt_in {l : List Site} {x y : Int} {i : Nat} (h : i < l.length) : sqAt l x y i = sq l[i] x y := by simp [sqAt, h]
/-- what the first k owners cost -/
def costTo (l : List Site) (wd : Nat) (O : List Int) : Nat → Int
  | 0 => 0
  | k + 1 => costTo l wd O k + sqAt l (pxx wd k) (pxy wd k) (O[k]?.getD 0).toNat
theorem costTo_succ {l : List Site} {wd : Nat} {O : List Int} {k i : Nat} (hk : k < O.length) (hi : O[k] = i) (hil : i < l.length) : costTo l wd O (k + 1) = costTo l wd O k + sq l[i] (pxx wd k) (pxy wd k) := by
  rw [costTo, List.getElem?_eq_getElem hk, Option.getD_some, hi, Int.toNat_natCast, sqAt_in hil]
theorem costTo_bd {l : List Site} {wd : Nat} {O : List Int} (hok : okSites l = true) (hw1 : 1 ≤ wd) (hw2 : wd ≤ 12) (hin : ∀ j (hj : j < O.length), ∃ i : Nat, O[j] = i ∧ i < l.length) : ∀ k, k ≤ O.length → k ≤ 144 → 0 ≤ costTo l wd O k ∧ costTo l wd O k ≤ 2121800 * k
  | 0, _, _ => by simp [costTo]
  | k + 1, hk, hk2 => by
    obtain ⟨h1, h2⟩ := costTo_bd hok hw1 hw2 hin k (by omega) (by omega)
    obtain ⟨i, hi, hil⟩ := hin k (by omega)
    rw [costTo_succ (by omega) hi hil]
    have := sq_bd (s := l[i]) (x := pxx wd k) (y := pxy wd k) ⟨okSites_at hok hil, (pix_in2 hw1 hw2 (by omega)).1⟩
    omega

set_option maxHeartbeats 1000000 in
theorem f75_c (a b : Option Addr) (n c m d : Nat) (l : List Site) (O : List Int) (wd : Nat) (w : World) (hl : Sites w a l) (hO : Ints w b O) (hn : l.length = n) (hm : O.length = m) (hok : okSites l = true) (hw1 : 1 ≤ wd) (hw2 : wd ≤ 12) (h144 : m ≤ 144)
    (hin : ∀ j (hj : j < O.length), ∃ i : Nat, O[j] = i ∧ i < l.length) :
    Calls Try.prog 75 #[.slice a n c, .int .i64 wd, .slice b m d] w fun e w' => e = .returned (.int .i64 (costTo l wd O m)) ∧ Ext w w' := by
  subst hn hm
  have hbd := costTo_bd hok hw1 hw2 hin
  have hl5 := okSites_len hok
  have Hst := Lib.hid (fun i (h : i < l.length) => okSites_at hok h)
  have Hin := Lib.hid hin
  have Hbd := Lib.hid hbd
  clear hin hbd hok
  go_enter Try.func75, Try.ntmps75
  go_wp2_with fail
  go_loopw [7, 8] (fun v i wr => ∃ k : Nat, k ≤ O.length ∧ i = .int .i64 k ∧ v = .int .i64 (costTo l wd O k) ∧ Ext w wr) (fun _ i _ => O.length - (intOf i).toNat)
  case atStart => exact ⟨0, by omega, rfl, rfl, Below.refl _ _⟩
  case round =>
    obtain ⟨k, hk, rfl, rfl, hE⟩ := hrel
    have hb := Hbd.out k hk (by omega)
    by_cases hlt : k < O.length
    · obtain ⟨i, hi, hil⟩ := Hin.out k hlt
      have Hsu := Lib.hid (costTo_succ (wd := wd) hlt hi hil)
      obtain ⟨hpi, h1, h2, h3, h4⟩ := pix_in2 hw1 hw2 (k := k) (by omega)
      have hnear : Near l[i] (pxx wd k) (pxy wd k) := ⟨Hst.out i hil, hpi⟩
      have hsb := sq_bd hnear
      have hw0 : (wd : Int) ≠ 0 := by omega
      have ht1 : Int.tmod (k : Int) (wd : Int) = pxx wd k := Int.tmod_eq_emod_of_nonneg (by omega)
      have ht2 : Int.tdiv (k : Int) (wd : Int) = pxy wd k := Int.tdiv_eq_ediv_of_nonneg (by omega)
      have hq : IntKind.i64.wrap (pxy wd k) = pxy wd k := IntWalk.i64_in _ (by omega)
      obtain ⟨b2, o2, rfl, hb2, hc2⟩ := hO.ext hE k hlt
      rw [List.getElem?_eq_getElem hlt, Option.getD_some, hi] at hc2
      obtain ⟨b1, o1, rfl, hb1, hcx, hcy, hcw⟩ := hl.ext hE i hil
      clear hi
      go_wp2_with fail
      refine wp_region_ext (by kernel_rfl) (by kernel_rfl) ?_
      repeat (go_big_quiet_step ((go_at_call 61; exact quiet_ext (f61_c _ _ _ _ hnear))))
      refine wpQuiet_nil ?_
      intro w1 hE1
      go_wp2_with fail
      go_roundw
      case rel => exact ⟨k + 1, by omega, by go_num, by rw [Hsu.out], hE.trans' hE1⟩
      case measure => simp [intOf]; omega
    · obtain rfl : k = O.length := by omega
      go_wp2_with fail
      go_ret
      exact ⟨rfl, hE⟩
end Go.Proofs.Ytodlbgncdggimaa
