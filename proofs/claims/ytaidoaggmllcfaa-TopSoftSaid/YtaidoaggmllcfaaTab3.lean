/- A row of another table of the call's own, laid into a table of the call's own. No program in sight. -/
import Derived.Test.YtaidoaggmllcfaaTab2
namespace Go.Proofs.Ytaidoaggmllcfaa
open Go.RowKit

def updF {α : Type} (f : Nat → α) (i : Nat) (v : α) : Nat → α := fun k => if k = i then v else f k
theorem updF_at {α : Type} (f : Nat → α) (i : Nat) (v : α) : updF f i v i = v := by simp [updF]
theorem updF_ne {α : Type} (f : Nat → α) {i k : Nat} (v : α) (h : k ≠ i) : updF f i v k = f k := by simp [updF, h]
section
variable {T : TypeId} {W : World} {B U : Nat} {v : Value} {A : Nat → Option Addr} {C G O : Nat → Nat} {t : Tbl}
theorem row_set {t : Tbl} {i : Nat} (hi : i < t.length) (l : List Int) (k : Nat) : row (t.set i l) k = if k = i then l else row t k := by
  unfold row
  by_cases h : k = i
  · subst h; simp [hi]
  · rw [if_neg h, List.getElem?_set_ne (by omega)]
theorem Apart.symm {g o n g' o' n' : Nat} (h : Apart g o n g' o' n') : Apart g' o' n' g o n := by
  rcases h with h | h | h
  · exact .inl (Ne.symm h)
  · exact .inr (.inr h)
  · exact .inr (.inl h)
theorem OwnL.setRow (h : OwnL T W B U v A C G O t) {i g n cap : Nat} (hi : i < t.length) (hv : v = .slice (some ⟨g, 0, none⟩) n cap) {l : List Int} {a : Option Addr} {c g0 o0 : Nat} (hrow : RowAt W B U v a g0 o0 l)
    (hap : ∀ k, k < t.length → k ≠ i → 0 < l.length → 0 < (row t k).length → Apart g0 o0 l.length (G k) (O k) (row t k).length) :
    OwnL T (W.setCell ⟨g, i, none⟩ (.slice a l.length c)) B U v (updF A i a) (updF C i c) (updF G i g0) (updF O i o0) (t.set i l) := by
  have hn : t.length = n := by
    rcases h.own.2 with ⟨e, _⟩ | ⟨_, _, _, e, _⟩
    · rw [hv] at e; cases e
    · rw [hv] at e; injection e with _ e _; exact e.symm
  have hvb : v.ownBlock = some g := by rw [hv]; rfl
  have keep : ∀ {a : Option Addr} {g1 o1 : Nat} {l1 : List Int}, RowAt W B U v a g1 o1 l1 → RowAt (W.setCell ⟨g, i, none⟩ (.slice a l.length c)) B U v a g1 o1 l1 := by
    intro a g1 o1 l1 hr h0
    obtain ⟨h1, h2, h3, h4, h5⟩ := hr h0
    refine ⟨h1, h2, h3, h4, fun j hj => ⟨?_, ?_⟩⟩
    · refine (World.cell?_setCell_other W _ _ _ (fun e => ?_)).trans (h5 j hj).1
      injection e with e1 _
      exact h4 (by rw [hvb, e1])
    · rw [World.frozen?_setCell]; exact (h5 j hj).2
  have keep2 : ∀ {a' : Option Addr} {u : Value} {g1 o1 : Nat} {l1 : List Int}, RowAt W B U v a' g1 o1 l1 → RowAt (W.setCell ⟨g, i, none⟩ u) B U v a' g1 o1 l1 := by
    intro a' u g1 o1 l1 hr h0
    obtain ⟨h1, h2, h3, h4, h5⟩ := hr h0
    refine ⟨h1, h2, h3, h4, fun j hj => ⟨?_, ?_⟩⟩
    · refine (World.cell?_setCell_other W _ _ _ (fun e => ?_)).trans (h5 j hj).1
      injection e with e1 _
      exact h4 (by rw [hvb, e1])
    · rw [World.frozen?_setCell]; exact (h5 j hj).2
  have hrv : rv (t.set i l) (updF A i a) (updF C i c) = (rv t A C).set i (.slice a l.length c) := by
    apply List.ext_getElem
    · simp [rv]
    · intro k h1 h2
      simp only [rv, List.length_map, List.length_range, List.length_set] at h1
      rw [List.getElem_set]
      simp only [rv, List.getElem_map, List.getElem_range]
      rw [row_set hi]
      by_cases e : i = k
      · subst e; simp [updF]
      · rw [if_neg e, if_neg (by omega), updF_ne A a (by omega), updF_ne C c (by omega)]
  refine ⟨by simpa using h.upto, ?_, h.blk, fun k hk => ?_, fun k q hk hq hne hk0 hq0 => ?_⟩
  · rw [hrv, List.length_set]
    have := h.own
    rw [hv, hn] at this ⊢
    exact (this.stored i _).1
  · rw [List.length_set] at hk
    rw [row_set hi]
    by_cases e : k = i
    · subst e
      rw [if_pos rfl, updF_at, updF_at, updF_at]
      exact keep2 hrow
    · rw [if_neg e, updF_ne A a e, updF_ne G g0 e, updF_ne O o0 e]
      exact keep2 (h.rows k hk)
  · rw [List.length_set] at hk hq
    rw [row_set hi] at hk0 hq0 ⊢
    rw [row_set hi]
    by_cases e1 : k = i
    · subst e1
      have e2 : q ≠ k := fun e => hne e.symm
      rw [if_pos rfl] at hk0
      rw [if_neg e2] at hq0
      rw [if_pos rfl, if_neg e2, updF_at, updF_at, updF_ne G g0 e2, updF_ne O o0 e2]
      exact hap q hq e2 hk0 hq0
    · by_cases e2 : q = i
      · subst e2
        rw [if_neg e1] at hk0
        rw [if_pos rfl] at hq0
        rw [if_neg e1, if_pos rfl, updF_at, updF_at, updF_ne G g0 e1, updF_ne O o0 e1]
        exact (hap k hk e1 hq0 hk0).symm
      · rw [if_neg e1] at hk0
        rw [if_neg e2] at hq0
        rw [if_neg e1, if_neg e2, updF_ne G g0 e1, updF_ne O o0 e1, updF_ne G g0 e2, updF_ne O o0 e2]
        exact h.apart k q hk hq hne hk0 hq0
end
end Go.Proofs.Ytaidoaggmllcfaa
