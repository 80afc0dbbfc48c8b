/- A list of roads in a block of the call's own. -/
import Derived.Test.YtbejgbflipoboaaOwnG
import Derived.Test.YtbejgbflipoboaaRA
namespace Go.Proofs.Ytbejgbflipoboaa
open Go.RowKit

def OwnRd (W : World) (B : Nat) (v : Value) (l : List Road) : Prop := W.ownsRow B 55 4 v l.length (roadV l)
section
variable {W X : World} {B : Nat} {v : Value} {l : List Road}
theorem OwnRd.ext (h : OwnRd W B v l) (hE : Ext W X) : OwnRd X B v l := row_ext h hE
theorem OwnRd.base {B' : Nat} (h : OwnRd W B v l) (hB : B' ≤ B) : OwnRd W B' v l := row_base h hB
theorem OwnRd.roads (h : OwnRd W B v l) : ∃ a c, v = .slice a l.length c ∧ Roads W a l := by
  rcases h.2 with ⟨rfl, h0⟩ | ⟨g, cap, cur, rfl, hb, hg, h1, h2, h3, h4⟩
  · exact ⟨none, 0, by rw [h0], fun j hj => by omega⟩
  · refine ⟨some ⟨g, 0, none⟩, cap, rfl, fun j hj => ⟨g, 0, rfl, (Array.getElem?_eq_some_iff.1 hg).1, ?_⟩⟩
    obtain ⟨v0, v1, v2, v3⟩ := roadV_at l j hj
    have key : ∀ i u, (roadV l)[i]? = some u → W.cell? ⟨g, i, none⟩ = some u := fun i u hu => by
      have hi : i < l.length * 4 := by
        have := (List.getElem?_eq_some_iff.1 hu).1
        rwa [roadV_length] at this
      exact (World.ownsRow.cellAt (g := g) h i hi).trans hu
    exact ⟨by rw [Nat.zero_add]; exact key _ _ v0, by rw [Nat.zero_add]; exact key _ _ v1, by rw [Nat.zero_add]; exact key _ _ v2, by rw [Nat.zero_add]; exact key _ _ v3⟩
theorem OwnRd.cells {g c m : Nat} (h : OwnRd W B (.slice (some ⟨g, 0, none⟩) m c) l) {k : Nat} (hk : k < l.length) : W.cell? ⟨g, k * 4, none⟩ = some (.int .i64 l[k].fr) ∧ W.cell? ⟨g, k * 4 + 1, none⟩ = some (.int .i64 l[k].to) ∧ W.cell? ⟨g, k * 4 + 2, none⟩ = some (.int .i64 l[k].ln) ∧ W.cell? ⟨g, k * 4 + 3, none⟩ = some (.int .i64 l[k].wd) := by
  obtain ⟨a9, c9, e9, _⟩ := h.roads
  injection e9 with e1 e2 e3
  subst e2
  obtain ⟨v0, v1, v2, v3⟩ := roadV_at l k hk
  have key : ∀ i u, (roadV l)[i]? = some u → W.cell? ⟨g, i, none⟩ = some u := fun i u hu => by
    have hi : i < l.length * 4 := by
      have := (List.getElem?_eq_some_iff.1 hu).1
      rwa [roadV_length] at this
    exact (World.ownsRow.cellAt (g := g) h i hi).trans hu
  exact ⟨key _ _ v0, key _ _ v1, key _ _ v2, key _ _ v3⟩
theorem OwnRd.other {g' : Nat} (h : OwnRd W B v l) (hne : some g' ≠ v.ownBlock) (i : Nat) (u : Value) : OwnRd (W.setCell ⟨g', i, none⟩ u) B v l := row_set_other h hne i u
/-- a list that is not empty lies in a block -/
theorem OwnRd.form (h : OwnRd W B v l) (hl : 0 < l.length) : ∃ g c, v = .slice (some ⟨g, 0, none⟩) l.length c ∧ B ≤ g ∧ g < W.heap.size := by
  rcases h.2 with ⟨_, h0⟩ | ⟨g, cap, _, rfl, hb, hg, _⟩
  · omega
  · exact ⟨g, cap, rfl, hb, (Array.getElem?_eq_some_iff.1 hg).1⟩
theorem OwnRd.froz {g c n : Nat} (h : OwnRd W B (.slice (some ⟨g, 0, none⟩) n c) l) (i : Nat) : W.frozen? ⟨g, i, none⟩ = false := by
  obtain ⟨a, c2, e, _⟩ := h.roads
  injection e with e1 e2 e3
  subst e2
  exact World.ownsRow.frozenAt h i
theorem roadV_set4 : ∀ (l : List Road) (k : Nat) (hk : k < l.length) (j : Nat) (n : Int) (r : Road), ([Value.int .i64 l[k].fr, .int .i64 l[k].to, .int .i64 l[k].ln, .int .i64 l[k].wd].set j (.int .i64 n) = [.int .i64 r.fr, .int .i64 r.to, .int .i64 r.ln, .int .i64 r.wd]) → j < 4 → (roadV l).set (k * 4 + j) (.int .i64 n) = roadV (l.set k r)
  | s :: l, 0, _, j, n, r, h, hj => by
    have e : ∀ (t : Road) (m : List Road), roadV (t :: m) = [.int .i64 t.fr, .int .i64 t.to, .int .i64 t.ln, .int .i64 t.wd] ++ roadV m := fun t m => by simp [roadV]
    rw [List.set_cons_zero, e, e, List.set_append_left _ _ (by simp; omega)]
    simp only [List.getElem_cons_zero] at h
    rw [Nat.zero_mul, Nat.zero_add, h]
  | s :: l, k + 1, hk, j, n, r, h, hj => by
    have h2 := roadV_set4 l k (by simpa using hk) j n r (by simpa using h) hj
    have e : ∀ (t : Road) (m : List Road), roadV (t :: m) = [.int .i64 t.fr, .int .i64 t.to, .int .i64 t.ln, .int .i64 t.wd] ++ roadV m := fun t m => by simp [roadV]
    rw [List.set_cons_succ, e, e, List.set_append_right _ _ (by simp; omega), show (k + 1) * 4 + j - [Value.int .i64 s.fr, .int .i64 s.to, .int .i64 s.ln, .int .i64 s.wd].length = k * 4 + j by simp; omega, h2]
theorem OwnRd.store {g c m : Nat} (h : OwnRd W B (.slice (some ⟨g, 0, none⟩) m c) l) {k : Nat} (hk : k < l.length) (j : Nat) (hj : j < 4) (n : Int) (r : Road) (hr : [Value.int .i64 l[k].fr, .int .i64 l[k].to, .int .i64 l[k].ln, .int .i64 l[k].wd].set j (.int .i64 n) = [.int .i64 r.fr, .int .i64 r.to, .int .i64 r.ln, .int .i64 r.wd]) : OwnRd (W.setCell ⟨g, k * 4 + j, none⟩ (.int .i64 n)) B (.slice (some ⟨g, 0, none⟩) m c) (l.set k r) := by
  obtain ⟨a9, c9, e9, _⟩ := h.roads
  injection e9 with e1 e2 e3
  subst e2
  have hst := (World.ownsRow.stored h (k * 4 + j) (.int .i64 n)).1
  rw [roadV_set4 l k hk j n r hr hj] at hst
  unfold OwnRd
  rw [List.length_set]
  exact hst
end
end Go.Proofs.Ytbejgbflipoboaa
