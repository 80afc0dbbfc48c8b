/- Contracts of the line's law: long, known. -/
import Derived.Test.YtfhgnmijigdlmaaT9
namespace Go.Proofs.Ytfhgnmijigdlmaa
open Go.RowKit
attribute [local go_sem] GW.cell
def longB (n m : Nat) : Bool := decide (100 < n) || decide (100 < m)
theorem f18_c (a1 a2 : Option Addr) (n c n2 c2 : Nat) (w : World) :
    Calls Try.prog 18 #[.slice a1 n c, .slice a2 n2 c2] w fun e w' => e = .returned (.bool (longB n n2)) ∧ w = w' := by
  by_cases h : 100 < n
  · have hd : decide (100 < (n : Int)) = true := by simp; omega
    rw [show longB n n2 = true by simp [longB, h]]
    clear h
    go_enter Try.func18, Try.ntmps18
    go_wp2_with fail
    go_ret
    exact ⟨rfl, rfl⟩
  have hd : decide (100 < (n : Int)) = false := by simp; omega
  by_cases h2 : 100 < n2
  · have hd : decide (100 < (n2 : Int)) = true := by simp; omega
    rw [show longB n n2 = true by simp [longB, h2]]
    clear h h2
    go_enter Try.func18, Try.ntmps18
    go_wp2_with fail
    go_ret
    exact ⟨rfl, rfl⟩
  have hd : decide (100 < (n2 : Int)) = false := by simp; omega
  rw [show longB n n2 = false by simp [longB, h, h2]]
  clear h h2
  go_enter Try.func18, Try.ntmps18
  go_wp2_with fail
  go_ret
  exact ⟨rfl, rfl⟩
theorem longB_no {n m : Nat} (h : longB n m = false) : n ≤ 100 ∧ m ≤ 100 := by
  unfold longB at h
  simp at h
  omega
def exA : List Atom := [⟨0, 2⟩, ⟨5, 1⟩]
def exB : List Atom := [⟨1, 1⟩, ⟨4, 2⟩]
theorem ex_least : leastV exA exB 2 = 18 ∧ leastErr exA exB 2 = 0 := by decide +kernel
theorem ex_worth : hgtV exA exB [0, 1, 4, 3] = 6 ∧ hgtErr exA exB [0, 1, 4, 3] = 0 := by decide +kernel
theorem atoms_new2 (w : World) (p m q n : Int) (T : TypeId) : Atoms (w.alloc (.cells #[.int .i64 p, .int .i64 m, .int .i64 q, .int .i64 n] T)) (some ⟨w.heap.size, 0, none⟩) [⟨p, m⟩, ⟨q, n⟩] := by
  intro j hj
  match j, hj with
  | 0, _ => exact ⟨_, 0, rfl, by simp, by simp, by simp⟩
  | 1, _ => exact ⟨_, 0, rfl, by simp, by simp, by simp⟩
theorem ints_new4 (w : World) (x y z u : Int) (T : TypeId) (B : Nat) (hB : w.heap.size = B) : Ints (w.alloc (.cells #[.int .i64 x, .int .i64 y, .int .i64 z, .int .i64 u] T)) (some ⟨B, 0, none⟩) [x, y, z, u] := by
  subst hB
  intro j hj
  refine ⟨_, _, rfl, by simp, ?_⟩
  match j, hj with
  | 0, _ => simp
  | 1, _ => simp
  | 2, _ => simp
  | 3, _ => simp
set_option maxHeartbeats 2000000 in
theorem f19_c (w : World) : Calls Try.prog 19 #[] w fun e w' => e = .returned (.bool true) ∧ Ext w w' := by
  have hE0 := ext_alloc w (.cells #[.int .i64 0, .int .i64 2, .int .i64 5, .int .i64 1] 50)
  have hE1 := hE0.trans' (ext_alloc (w.alloc (.cells #[.int .i64 0, .int .i64 2, .int .i64 5, .int .i64 1] 50)) (.cells #[.int .i64 1, .int .i64 1, .int .i64 4, .int .i64 2] 50))
  have HA := Lib.hid ((atoms_new2 w 0 2 5 1 50).ext (ext_alloc _ (.cells #[.int .i64 1, .int .i64 1, .int .i64 4, .int .i64 2] 50)))
  have HB := Lib.hid (atoms_new2 (w.alloc (.cells #[.int .i64 0, .int .i64 2, .int .i64 5, .int .i64 1] 50)) 1 1 4 2 50)
  simp only [World.size_alloc] at HB
  have X1 := Lib.hid ex_least
  have X2 := Lib.hid ex_worth
  go_enter Try.func19, Try.ntmps19
  go_wp2_with fail
  generalize (w.alloc (.cells #[.int .i64 0, .int .i64 2, .int .i64 5, .int .i64 1] 50)).alloc (.cells #[.int .i64 1, .int .i64 1, .int .i64 4, .int .i64 2] 50) = w0 at *
  refine (f20_c _ _ 2 2 2 2 exA exB 2 w0 HA.out rfl (by omega) HB.out rfl (by omega)).mono ?_
  rintro e w1 ⟨rfl, hE2⟩
  rw [X1.out.1, X1.out.2]
  have HA1 := Lib.hid ((HA.out.ext hE2).ext (ext_alloc w1 (.cells #[.int .i64 0, .int .i64 1, .int .i64 4, .int .i64 3] 3)))
  have HB1 := Lib.hid ((HB.out.ext hE2).ext (ext_alloc w1 (.cells #[.int .i64 0, .int .i64 1, .int .i64 4, .int .i64 3] 3)))
  have HI := Lib.hid (ints_new4 w1 0 1 4 3 3 _ rfl)
  have hE3 := (hE1.trans' hE2).trans' (ext_alloc w1 (.cells #[.int .i64 0, .int .i64 1, .int .i64 4, .int .i64 3] 3))
  go_wp2_with fail
  refine (f23_c _ _ _ 2 2 2 2 4 4 exA exB [0, 1, 4, 3] _ HA1.out rfl (by omega) HB1.out rfl (by omega) HI.out rfl (by omega)).mono ?_
  rintro e w2 ⟨rfl, hE4⟩
  rw [X2.out.1, X2.out.2]
  go_wp2_with fail
  go_ret
  exact ⟨rfl, hE3.trans' hE4⟩
end Go.Proofs.Ytfhgnmijigdlmaa
