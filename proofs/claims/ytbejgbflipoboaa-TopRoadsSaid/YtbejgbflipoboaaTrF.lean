/- Four lists of numbers of the call's own, each in a row that grows. No program in sight. -/
import Derived.Test.YtbejgbflipoboaaTr1
namespace Go.Proofs.Ytbejgbflipoboaa.Tr
open Go.RowKit

def Ap (u v : Value) : Prop := ∀ g, u.ownBlock = some g → v.ownBlock = some g → False
theorem Ap.symm {u v : Value} (h : Ap u v) : Ap v u := fun g a b => h g b a
theorem Ap.nil (u : Value) : Ap u (.slice none 0 0) := fun g _ b => by simp [Value.ownBlock] at b
def RowI (W : World) (B : Nat) (v : Value) (l : List Int) : Prop := W.ownsRow B 3 1 v l.length (l.map (.int .i64))
structure Four (W : World) (B : Nat) (v5 v6 v7 v8 : Value) (l5 l6 l7 l8 : List Int) : Prop where
  r5 : RowI W B v5 l5
  r6 : RowI W B v6 l6
  r7 : RowI W B v7 l7
  r8 : RowI W B v8 l8
  a56 : Ap v5 v6
  a57 : Ap v5 v7
  a58 : Ap v5 v8
  a67 : Ap v6 v7
  a68 : Ap v6 v8
  a78 : Ap v7 v8
section
variable {W W' : World} {B : Nat} {v5 v6 v7 v8 v' : Value} {l5 l6 l7 l8 : List Int} {z : Int}
theorem Four.nil (W : World) (B : Nat) : Four W B (.slice none 0 0) (.slice none 0 0) (.slice none 0 0) (.slice none 0 0) [] [] [] [] :=
  ⟨World.ownsRow_nil _ _ _ _, World.ownsRow_nil _ _ _ _, World.ownsRow_nil _ _ _ _, World.ownsRow_nil _ _ _ _, Ap.nil _, Ap.nil _, Ap.nil _, Ap.nil _, Ap.nil _, Ap.nil _⟩
theorem Four.rot (h : Four W B v5 v6 v7 v8 l5 l6 l7 l8) : Four W B v6 v7 v8 v5 l6 l7 l8 l5 :=
  ⟨h.r6, h.r7, h.r8, h.r5, h.a67, h.a68, h.a56.symm, h.a78, h.a57.symm, h.a58.symm⟩
theorem Four.ext (h : Four W B v5 v6 v7 v8 l5 l6 l7 l8) (hE : Ext W W') : Four W' B v5 v6 v7 v8 l5 l6 l7 l8 :=
  ⟨row_ext h.r5 hE, row_ext h.r6 hE, row_ext h.r7 hE, row_ext h.r8 hE, h.a56, h.a57, h.a58, h.a67, h.a68, h.a78⟩
theorem RowI.blk {v : Value} {l : List Int} (h : RowI W B v l) {g : Nat} (hg : v.ownBlock = some g) : g < W.heap.size := by
  rcases h.2 with ⟨rfl, _⟩ | ⟨g', cap, cur, rfl, _, hg', _⟩
  · simp [Value.ownBlock] at hg
  · have e : g' = g := by simpa [Value.ownBlock] using hg
    subst e
    exact (Array.getElem?_eq_some_iff.1 hg').1
theorem RowI.keep {v u u' : Value} {l : List Int} (h : RowI W B v l) (hP : Push W (.int .i64 z) 3 u u' W') (ha : Ap v u) : RowI W' B v l :=
  hP.row h (fun g hg e => ha g hg e.symm)
theorem Ap.push {v u u' : Value} {l : List Int} (h : RowI W B v l) (hP : Push W (.int .i64 z) 3 u u' W') (ha : Ap v u) : Ap v u' := fun g hg hu => by
  rcases hP.2 with e | e
  · exact ha g hg (by rw [← e]; exact hu)
  · have h1 := h.blk hg
    rw [e] at hu
    simp at hu
    omega
theorem Four.push (h : Four W B v5 v6 v7 v8 l5 l6 l7 l8) (hP : Push W (.int .i64 z) 3 v5 v' W') (hown : W'.ownsRow B 3 1 v' (l5.length + 1) (l5.map (.int .i64) ++ [.int .i64 z])) : Four W' B v' v6 v7 v8 (l5 ++ [z]) l6 l7 l8 := by
  refine ⟨?_, h.r6.keep hP h.a56.symm, h.r7.keep hP h.a57.symm, h.r8.keep hP h.a58.symm, (Ap.push h.r6 hP h.a56.symm).symm, (Ap.push h.r7 hP h.a57.symm).symm, (Ap.push h.r8 hP h.a58.symm).symm, h.a67, h.a68, h.a78⟩
  unfold RowI
  rw [List.length_append, List.length_singleton, List.map_append]
  exact hown
end
end Go.Proofs.Ytbejgbflipoboaa.Tr
