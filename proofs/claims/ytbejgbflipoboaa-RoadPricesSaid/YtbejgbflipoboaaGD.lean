/- Plain words of flows: one unit more along a chain; what is left when no chain leads on. No program in sight. -/
import Derived.Test.YtbejgbflipoboaaGC
namespace Go.Proofs.Ytbejgbflipoboaa

/-- a flow with prices, and what it leaves of an excess -/
structure ShipInv (G : NetG) (N : Nat) (x f l : Nat → Int) : Prop where
  fs : G.Fs f
  out : ∀ v, v < N → G.out f v + l v = x v
  pot : ∃ p : Nat → Int, ∀ s, G.Ok f s → p (G.arcs.to s) ≤ G.arcs.ln s + p (G.arcs.fr s)
theorem pot_of {G : NetG} {f p : Nat → Int} {L : List Int} (hL : G.Steps f L) (h : ∀ s, G.Ok f s → p (G.arcs.to s) ≤ G.arcs.ln s + p (G.arcs.fr s)) : G.arcs.Pot L p := fun s hs => h s ((hL s).1 hs)
theorem of_pot {G : NetG} {f p : Nat → Int} {L : List Int} (hL : G.Steps f L) (h : G.arcs.Pot L p) : ∀ s, G.Ok f s → p (G.arcs.to s) ≤ G.arcs.ln s + p (G.arcs.fr s) := fun s hs => h s ((hL s).2 hs)
theorem ship_zero {G : NetG} {N : Nat} (x : Nat → Int) (hw : ∀ k, k < G.K → 0 ≤ G.wd k) (hl : ∀ k, k < G.K → 0 ≤ G.ln k) : ShipInv G N x (fun _ => 0) x := by
  refine ⟨fun k hk => ⟨Int.le_refl _, hw k hk⟩, fun v _ => ?_, fun _ => 0, fun s hs => ?_⟩
  · have : G.out (fun _ => 0) v = 0 := by
      unfold NetG.out
      rw [sumN_congr (g := fun _ => 0) (fun k _ => by simp)]
      exact sumN_zero _
    omega
  · have h1 := hl _ (eNo_lt hs.1)
    have h2 := hs.2
    simp only [NetG.arcs]
    split at h2
    · exact absurd h2 (by simp)
    · rename_i h; rw [if_neg h]; omega
/-- labels stay far below far -/
theorem LEnd.near {G : NetG} {far : Int} {N : Nat} {L : List Int} {p first at_ : Nat → Int} {b : Nat → Option Int} (h : LEnd G.arcs far N L p first at_ b) (hL : G.arcs.In N L) {K : Int} (hK : 0 ≤ K) (hl : ∀ s ∈ L, -K ≤ G.arcs.ln s ∧ G.arcs.ln s ≤ K) (hfirst : ∀ v, v < N → first v = far ∨ first v = 0) (hfar : N * K < far) :
    (∀ v, v < N → at_ v < far → -((N - 1) * K) ≤ at_ v ∧ at_ v ≤ (N - 1) * K) ∧ ∀ s ∈ L, at_ (G.arcs.fr s) < far → at_ (G.arcs.to s) < far := by
  have h1 : ∀ v, v < N → at_ v < far → -((N - 1) * K) ≤ at_ v ∧ at_ v ≤ (N - 1) * K := fun v hv hf => by
    obtain ⟨r, r1, r2, r3, r4, r5, r6⟩ := h.bd hL hK hl hv
    have := r4 hf
    rcases hfirst r r1 with e | e
    · omega
    · rw [e] at r5 r6; omega
  refine ⟨h1, fun s hs hf => ?_⟩
  have h2 := h1 _ (hL s hs).1 hf
  have h3 := h.sat s hs hf
  have h4 := hl s hs
  have h5 : ((N : Int) - 1) * K = N * K - K := by rw [Int.sub_mul]; omega
  omega
theorem ship_more {G : NetG} {far : Int} {N : Nat} (hG : G.Fine N) {x f l : Nat → Int} (h : ShipInv G N x f l) {L : List Int} (hL : G.Steps f L) {p first at_ : Nat → Int} {b : Nat → Option Int} (hp : G.arcs.Pot L p) (hE : LEnd G.arcs far N L p first at_ b)
    {K : Int} (hK : 0 ≤ K) (hl : ∀ s ∈ L, -K ≤ G.arcs.ln s ∧ G.arcs.ln s ≤ K) (hfar : N * K < far) (hfirst : ∀ v, v < N → first v = far ∨ (first v = 0 ∧ 0 < l v))
    {best : Nat} (hb : best < N) (hb2 : at_ best < far) : ∃ c r, Chn G.arcs b best c r ∧ r < N ∧ 0 < l r ∧ c.length + 1 ≤ N ∧ ShipInv G N x (turnsG f c) (fun v => l v + one best v - one r v) := by
  have hin := steps_in hG hL
  obtain ⟨c, r, hc⟩ := hE.ends best hb
  obtain ⟨h1, h2, h3, h4, h5⟩ := hE.tele hin hb hc
  obtain ⟨_, hn2⟩ := hE.near hin hK hl (fun v hv => (hfirst v hv).imp id (fun h => h.1)) hfar
  have hr : 0 < l r := by
    have := h5 hb2
    rcases hfirst r h2 with e | e
    · omega
    · exact e.2
  have hedge : ∀ v, v < N → ∀ s, b v = some s → s ∈ L ∧ G.arcs.to s = v ∧ G.arcs.fr s < N := fun v hv s hs => by
    obtain ⟨e1, e2, _⟩ := hE.edge v hv s hs
    exact ⟨e1, e2, (hin s e1).1⟩
  have hok : ∀ s ∈ c, G.Ok f s := fun s hs => (hL s).1 (h3 s hs)
  have hnd := chn_roads hL hedge hc hb
  have hfs := turnsG_fs h.fs hok hnd
  refine ⟨c, r, hc, h2, hr, hc.short hin hb h3, hfs, fun v hv => ?_, ?_⟩
  · rw [turnsG_out v c f (fun s hs => (hok s hs).1), chn_end (fun v hv s hs => (hedge v hv s hs).2) hc v hb]
    have := h.out v hv
    omega
  · refine ⟨capP far p at_ (at_ best - p best), fun s hs => ?_⟩
    have hpot := capP_pot (c := at_ best - p best) hE.sat hp hn2
    have htight := capP_tight hE hin hp hb hb2 hc
    by_cases hm : eNo s ∈ c.map eNo
    · obtain ⟨t, htl, e⟩ := List.mem_map.1 hm
      have h3 := htight t htl
      rcases eNo_eq (hok t htl).1.1 hs.1.1 e with rfl | rfl
      · omega
      · have e2 : eNo (-s) = eNo s := e
        have := hs.1.1
        simp only [NetG.arcs, e2] at h3 ⊢
        by_cases hneg : s < 0
        · rw [if_neg (by omega), if_neg (by omega), if_neg (by omega)] at h3
          rw [if_pos hneg, if_pos hneg, if_pos hneg]; omega
        · rw [if_pos (by omega), if_pos (by omega), if_pos (by omega)] at h3
          rw [if_neg hneg, if_neg hneg, if_neg hneg]; omega
    · obtain ⟨q1, q2⟩ := hs
      rw [turnsG_other c f _ hm] at q2
      exact hpot s ((hL s).2 ⟨q1, q2⟩)
def NetG.Dam (G : NetG) (N : Nat) (x : Nat → Int) (S : Nat → Bool) : Prop := G.cut S < sumS x S N
theorem dam_none {G : NetG} {N : Nat} (hG : G.Fine N) {x : Nat → Int} {S : Nat → Bool} (h : G.Dam N x S) {g : Nat → Int} (hg : G.Fs g) : ¬ ∀ v, v < N → G.out g v = x v := fun ho => by
  have h1 := out_le_cut hG hg S
  have h2 : sumS (G.out g) S N = sumS x S N := sumN_congr fun v hv => by rw [ho v hv]
  unfold NetG.Dam at h
  omega
theorem sumS_add (f g : Nat → Int) (S : Nat → Bool) (N : Nat) : sumS (fun v => f v + g v) S N = sumS f S N + sumS g S N := by
  unfold sumS
  rw [← sumN_add]
  exact sumN_congr fun v _ => by cases S v <;> simp
theorem sumN_term {f : Nat → Int} {n : Nat} (h : ∀ i, i < n → 0 ≤ f i) {a : Nat} (ha : a < n) : f a ≤ sumN f n := by
  have h1 := sumN_pick f a n
  rw [if_pos ha] at h1
  rw [← h1]
  exact sumN_le fun i hi => by have := h i hi; split <;> omega
/-- no chain leads on: what is reached is a barrier -/
theorem ship_stuck {G : NetG} {far : Int} {N : Nat} (hG : G.Fine N) {x f l : Nat → Int} (h : ShipInv G N x f l) {L : List Int} (hL : G.Steps f L) {p first at_ : Nat → Int} {b : Nat → Option Int} (hE : LEnd G.arcs far N L p first at_ b)
    {K : Int} (hK : 0 ≤ K) (hl : ∀ s ∈ L, -K ≤ G.arcs.ln s ∧ G.arcs.ln s ≤ K) (hfar : N * K < far) (hfirst : ∀ v, v < N → first v = far ∨ (first v = 0 ∧ 0 < l v))
    (hno : ∀ v, v < N → l v < 0 → ¬ at_ v < far) {a : Nat} (ha : a < N) (ha2 : first a = 0) : G.Dam N x (fun v => decide (at_ v < far)) := by
  have hin := steps_in hG hL
  obtain ⟨_, hn2⟩ := hE.near hin hK hl (fun v hv => (hfirst v hv).imp id (fun h => h.1)) hfar
  have hfar0 : 0 < far := by have : 0 ≤ (N : Int) * K := Int.mul_nonneg (by omega) hK; omega
  have h1 := out_eq_cut hG h.fs hL (fun v => decide (at_ v < far)) (fun s hs => by simp only [decide_eq_true_eq]; exact hn2 s hs)
  have h2 : sumS x (fun v => decide (at_ v < far)) N = sumS (G.out f) (fun v => decide (at_ v < far)) N + sumS l (fun v => decide (at_ v < far)) N := by
    rw [← sumS_add]
    exact sumN_congr fun v hv => by simp only [h.out v hv]
  have h3 : l a ≤ sumS l (fun v => decide (at_ v < far)) N := by
    have hle := hE.le a ha
    have := sumN_term (f := fun v => if decide (at_ v < far) then l v else 0) (n := N) (fun v hv => by
      by_cases hc : at_ v < far
      · have := hno v hv
        rw [if_pos (by simpa using hc)]
        omega
      · rw [if_neg (by simpa using hc)]; omega) ha
    rw [if_pos (by simp; omega)] at this
    exact this
  have h4 : 0 < l a := by
    rcases hfirst a ha with e | e
    · omega
    · exact e.2
  unfold NetG.Dam
  omega
/-- how much is too much -/
def over (l : Nat → Int) (N : Nat) : Int := sumN (fun v => max (l v) 0) N
theorem over_nonneg (l : Nat → Int) (N : Nat) : 0 ≤ over l N := sumN_nonneg fun v _ => by omega
theorem over_step {l : Nat → Int} {N best r : Nat} (hb : l best < 0) (hr : 0 < l r) (hrN : r < N) : over (fun v => l v + one best v - one r v) N = over l N - 1 := by
  unfold over
  have h1 := sum_one (fun _ => 1) hrN
  have key : ∀ v, max (l v + one best v - one r v) 0 = max (l v) 0 + (-1) * (1 * one r v) := fun v => by
    unfold one
    by_cases e1 : best = v
    · by_cases e2 : r = v
      · subst e1; subst e2; omega
      · subst e1; rw [if_pos rfl, if_neg e2]; omega
    · by_cases e2 : r = v
      · subst e2; rw [if_neg e1, if_pos rfl]; omega
      · rw [if_neg e1, if_neg e2]; omega
  rw [sumN_congr (g := fun v => max (l v) 0 + (-1) * (1 * one r v)) (fun v _ => key v), sumN_add, sumN_mul, h1]
  omega
theorem over_zero {l : Nat → Int} {N : Nat} (h : over l N = 0) : ∀ v, v < N → l v ≤ 0 := fun v hv => by
  have := sumN_all0 (f := fun v => max (l v) 0) (n := N) (fun v _ => by omega) (by unfold over at h; omega) v hv
  omega
/-- nothing too much, and no too little: all is moved -/
theorem left_zero {l : Nat → Int} {N : Nat} (h : ∀ v, v < N → l v ≤ 0) (hs : sumN l N = 0) : ∀ v, v < N → l v = 0 := fun v hv => by
  have := sumN_all0 (f := fun v => (-1) * l v) (n := N) (fun v hv => by have := h v hv; omega) (by rw [sumN_mul]; omega) v hv
  omega
theorem out_sum {G : NetG} {N : Nat} (hG : G.Fine N) (f : Nat → Int) : sumN (G.out f) N = 0 := by
  have := sum_out hG (fun _ => 1) f
  rw [sumN_congr (f := fun v => 1 * G.out f v) (g := G.out f) (fun v _ => by omega), sumN_congr (f := fun k => f k * (1 - 1)) (g := fun _ => 0) (fun k _ => by omega), sumN_zero] at this
  exact this
end Go.Proofs.Ytbejgbflipoboaa
