/- CellCentres: the law's walk. -/
import Derived.DeepKeys
import Derived.ChangeKeysEq
import Derived.Test.YtodlbgncdggimaaT30
namespace Go.Proofs.Ytodlbgncdggimaa
open Go.RowKit
attribute [local go_sem] GW.cell

theorem und56 : Try.prog.underlying 56 = some (.array 2 55) := by kernel_rfl
theorem inf55 : (Try.prog.info? 55).isSome = true := by kernel_rfl
theorem und55 : Try.prog.underlying 55 = some (.struct (Try.prog.fieldsOf 55)) := by kernel_rfl
theorem stood55 : Try.prog.stoodInHeld 55 = false := by kernel_rfl
theorem cells55 : Try.prog.cellsOf 55 = 2 := by kernel_rfl
theorem fields55 : (Try.prog.fieldsOf 55).toList = (match Try.prog.underlying 55 with | some (.struct fs) => fs.toList | _ => []) := by kernel_rfl
theorem eq_quad (x0 x1 x2 x3 : Int) (w : World) : (binOp .eql 56 (.agg #[.int .i64 x0, .int .i64 x1, .int .i64 x2, .int .i64 x3]) (.agg #[.int .i64 x0, .int .i64 x1, .int .i64 x2, .int .i64 x3])).run Try.prog w = .ok (.bool true) w := by
  obtain ⟨i, hi⟩ := Option.isSome_iff_exists.1 inf55
  rw [run_eql_struct, run_equalIn_array w 9999 _ _ und56 hi]
  simp only [show List.range 2 = [0, 1] from rfl]
  simp [Op.eqItems, part, go_sem, cells55]
theorem guard56 : Try.prog.eqGuardType Try.prog.depth 56 = false := by kernel_rfl

def quad (v : Value) : Prop := ∃ x0 x1 x2 x3 : Int, v = .agg #[.int .i64 x0, .int .i64 x1, .int .i64 x2, .int .i64 x3]
theorem cenV_quad (l : List Site) (x y : Int) (O : List Int) (i : Int) : quad (cenV l x y O i) := by
  unfold cenV
  split
  · exact ⟨_, _, _, _, rfl⟩
  · exact ⟨_, _, _, _, rfl⟩

set_option maxHeartbeats 4000000 in
theorem lawCentres (w : World) (a : Option Addr) (n c : Nat) (l : List Site) (hl : Sites w a l) (hn : l.length = n) (x y : Int) (b : Option Addr) (m d : Nat) (O : List Int) (hO : Ints w b O) (hm : O.length = m) (i : Int) :
    Calls Try.prog 10 #[.slice a n c, .agg #[.int .i64 x, .int .i64 y], .agg #[.slice b m d, .int .i64 i]] w fun e w' => e = .returned (.bool true) ∧ Ext w w' := by
  subst hn hm
  have hEb := (ext_alloc w (.cells #[.int .i64 x, .int .i64 y] 24)).trans' (ext_alloc _ (.cells #[.slice b O.length d, .int .i64 i] 53))
  by_cases h40 : 40 < l.length
  · have hd : decide (40 < (l.length : Int)) = true := by simp; omega
    go_enter Try.func10, Try.ntmps10
    go_wp2_with fail
    refine (f17_c _).mono ?_
    rintro e w1 ⟨rfl, hE⟩
    go_wp2_with fail
    go_ret
    exact ⟨rfl, hEb.trans' hE⟩
  have hd : decide (40 < (l.length : Int)) = false := by simp; omega
  have hlen : l.length ≤ 140737488355328 := by omega
  by_cases h200 : 200 < O.length
  · have hd2 : decide (200 < (O.length : Int)) = true := by simp; omega
    go_enter Try.func10, Try.ntmps10
    go_wp2_with fail
    refine (f24_c _ _ _ _).mono ?_
    rintro e w1 ⟨rfl, rfl⟩
    rw [hd2]
    go_wp2_with fail
    refine (f17_c _).mono ?_
    rintro e w1 ⟨rfl, hE⟩
    go_wp2_with fail
    go_ret
    exact ⟨rfl, hEb.trans' hE⟩
  have hd2 : decide (200 < (O.length : Int)) = false := by simp; omega
  have hlm : O.length ≤ 140737488355328 := by omega
  have Heb := Lib.hid hEb
  have Hd2 := Lib.hid hd2
  have h39 := fun W (h : Sites W a l) (k : Ints W b O) => f39_c a b l.length c O.length d l O x y i W h k rfl rfl hlen hlm
  have h40' := fun W (h : Sites W a l) (k : Ints W b O) => f40_c a b l.length c O.length d l O x y i W h k rfl rfl hlen hlm
  obtain ⟨x0, x1, x2, x3, hv⟩ := cenV_quad l x y O i
  simp only [hv] at h39 h40'
  have H39 := Lib.hid h39
  have H40 := Lib.hid h40'
  clear h39 h40' hv
  generalize cenErr l x y O i = E at *
  have hE0 : (E == E) = true := by simp
  have hb0 : ((w.alloc (.cells #[.int .i64 x, .int .i64 y] 24)).alloc (.cells #[.slice b O.length d, .int .i64 i] 53)).cell? ⟨w.heap.size, 0, none⟩ = some (.int .i64 x) := ((ext_alloc _ _).cell' (by simp)).trans (by simp)
  have hb1 : ((w.alloc (.cells #[.int .i64 x, .int .i64 y] 24)).alloc (.cells #[.slice b O.length d, .int .i64 i] 53)).cell? ⟨w.heap.size, 1, none⟩ = some (.int .i64 y) := ((ext_alloc _ _).cell' (by simp)).trans (by simp)
  have hb2 : ((w.alloc (.cells #[.int .i64 x, .int .i64 y] 24)).alloc (.cells #[.slice b O.length d, .int .i64 i] 53)).cell? ⟨w.heap.size + 1, 0, none⟩ = some (.slice b O.length d) := by simp
  have hb3 : ((w.alloc (.cells #[.int .i64 x, .int .i64 y] 24)).alloc (.cells #[.slice b O.length d, .int .i64 i] 53)).cell? ⟨w.heap.size + 1, 1, none⟩ = some (.int .i64 i) := by simp
  have hsz : w.heap.size + 1 < ((w.alloc (.cells #[.int .i64 x, .int .i64 y] 24)).alloc (.cells #[.slice b O.length d, .int .i64 i] 53)).heap.size := by simp
  have Hb0 := Lib.hid hb0
  have Hb1 := Lib.hid hb1
  have Hb2 := Lib.hid hb2
  have Hb3 := Lib.hid hb3
  have Hsz := Lib.hid hsz
  clear hEb hd2 hb0 hb1 hb2 hb3 hsz
  go_enter Try.func10, Try.ntmps10
  go_wp2_with fail
  refine (f24_c _ _ _ _).mono ?_
  rintro e w1 ⟨rfl, rfl⟩
  rw [Hd2.out]
  go_wp2_with fail
  generalize ((w.alloc (.cells #[.int .i64 x, .int .i64 y] 24)).alloc (.cells #[.slice b O.length d, .int .i64 i] 53)) = w0 at *
  refine (H39.out _ (hl.ext Heb.out) (hO.ext Heb.out)).mono ?_
  rintro e w1 ⟨rfl, hE1⟩
  have hz := Hsz.out
  have hz1 := hE1.size
  have g0 := (hE1.cell' (by omega)).trans Hb0.out
  have g1 := (hE1.cell' Hsz.out).trans Hb2.out
  have g2 := (hE1.cell' (by omega)).trans Hb1.out
  have g3 := (hE1.cell' Hsz.out).trans Hb3.out
  have l0 : w.heap.size < w1.heap.size := by omega
  have l1 : w.heap.size + 1 < w1.heap.size := by omega
  clear H39
  go_wp2_with fail
  have hE2 := hE1.trans' (ext_alloc w1 (.cells #[.int .i64 x0, .int .i64 x1, .int .i64 x2, .int .i64 x3] 56))
  refine (H40.out _ (hl.ext (Heb.out.trans' hE2)) (hO.ext (Heb.out.trans' hE2))).mono ?_
  rintro e w2 ⟨rfl, hE3⟩
  have q0 : w2.cell? ⟨w1.heap.size, 0, none⟩ = some (.int .i64 x0) := (hE3.cell' (by simp)).trans (by simp)
  have q1 : w2.cell? ⟨w1.heap.size, 1, none⟩ = some (.int .i64 x1) := (hE3.cell' (by simp)).trans (by simp)
  have q2 : w2.cell? ⟨w1.heap.size, 2, none⟩ = some (.int .i64 x2) := (hE3.cell' (by simp)).trans (by simp)
  have q3 : w2.cell? ⟨w1.heap.size, 3, none⟩ = some (.int .i64 x3) := (hE3.cell' (by simp)).trans (by simp)
  have hz3 := hE3.size
  simp only [World.size_alloc] at hz3
  have lq : w1.heap.size < w2.heap.size := by omega
  clear H40
  have hq := fun W => eq_quad x0 x1 x2 x3 W
  have hg := guard56
  go_wp2_with fail
  clear hq hg
  refine (f17_c _).mono ?_
  rintro e w3 ⟨rfl, hE4⟩
  go_wp2_with fail
  go_ret
  exact ⟨rfl, Heb.out.trans' (hE2.trans' (hE3.trans' ((ext_alloc _ _).trans' hE4)))⟩
end Go.Proofs.Ytodlbgncdggimaa
