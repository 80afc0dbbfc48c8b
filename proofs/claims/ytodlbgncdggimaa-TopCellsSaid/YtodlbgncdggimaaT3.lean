/- Contracts: powers of a site. -/
import Derived.Test.YtodlbgncdggimaaT2
import Derived.Test.YtodlbgncdggimaaReg
namespace Go.Proofs.Ytodlbgncdggimaa
open Go.RowKit
attribute [local go_sem] GW.cell

/-- the square of the distance -/
def sq (s : Site) (x y : Int) : Int := (x - s.x) * (x - s.x) + (y - s.y) * (y - s.y)
def pow (s : Site) (x y : Int) : Int := sq s x y - s.w
/-- bounds -/
def Near (s : Site) (x y : Int) : Prop := okSite s = true ∧ -1000 ≤ x ∧ x ≤ 1000 ∧ -1000 ≤ y ∧ y ≤ 1000
abbrev sv (s : Site) : Value := .agg #[.int .i64 s.x, .int .i64 s.y, .int .i64 s.w]

theorem mul_self_bd (t : Int) (h0 : -1030 ≤ t) (h1 : t ≤ 1030) : 0 ≤ t * t ∧ t * t ≤ 1060900 := by
  have : t.natAbs ≤ 1030 := by omega
  have h2 : t.natAbs * t.natAbs ≤ 1030 * 1030 := Nat.mul_le_mul this this
  have h3 : ((t.natAbs * t.natAbs : Nat) : Int) = t * t := by rw [Int.natAbs_mul_self]
  rw [← h3]
  generalize t.natAbs * t.natAbs = u at *
  omega

theorem sq_bd {s : Site} {x y : Int} (h : Near s x y) : 0 ≤ sq s x y ∧ sq s x y ≤ 2121800 := by
  obtain ⟨hs, h1, h2, h3, h4⟩ := h
  have := okSite_bd hs
  have a := mul_self_bd (x - s.x) (by omega) (by omega)
  have b := mul_self_bd (y - s.y) (by omega) (by omega)
  unfold sq; omega

set_option maxHeartbeats 1000000 in
theorem f87_c (s : Site) (x y : Int) (w : World) (h : Near s x y) :
    Calls Try.prog 87 #[sv s, .int .i64 x, .int .i64 y] w fun e w' => e = .returned (.int .i64 (sq s x y)) ∧ Ext w w' := by
  obtain ⟨hs, h1, h2, h3, h4⟩ := h
  have hb := okSite_bd hs
  have ha := mul_self_bd (x - s.x) (by omega) (by omega)
  have hb' := mul_self_bd (y - s.y) (by omega) (by omega)
  go_enter Try.func87, Try.ntmps87
  go_wp2
  go_ret
  exact ⟨rfl, (Below.refl _ w).alloc (Nat.le_refl _) _⟩

set_option maxHeartbeats 1000000 in
theorem f58_c (s : Site) (x y : Int) (w : World) (h : Near s x y) :
    Calls Try.prog 58 #[sv s, .int .i64 x, .int .i64 y] w fun e w' => e = .returned (.int .i64 (pow s x y)) ∧ Ext w w' := by
  have hb := sq_bd h
  have hs := okSite_bd h.1
  have h := Lib.hid h
  go_enter Try.func58, Try.ntmps58
  go_wp2_with fail
  refine wp_region_ext (by kernel_rfl) (by kernel_rfl) ?_
  repeat (go_big_quiet_step ((go_at_call 87; exact quiet_ext (f87_c s x y _ h.out))))
  refine wpQuiet_nil ?_
  intro w1 hE1
  go_wp2
  go_ret
  exact ⟨rfl, Ext.trans' ((Below.refl _ w).alloc (Nat.le_refl _) _) hE1⟩
end Go.Proofs.Ytodlbgncdggimaa
