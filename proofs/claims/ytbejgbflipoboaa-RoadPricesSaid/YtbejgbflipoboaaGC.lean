/- Plain words of flows: what leaves, what it costs, steps, prices that prove, barriers. No program in sight. -/
import Derived.Test.YtbejgbflipoboaaGB
namespace Go.Proofs.Ytbejgbflipoboaa

def sumN (f : Nat → Int) : Nat → Int
  | 0 => 0
  | n + 1 => sumN f n + f n
theorem sumN_congr {f g : Nat → Int} : ∀ {n : Nat}, (∀ i, i < n → f i = g i) → sumN f n = sumN g n
  | 0, _ => rfl
  | n + 1, h => by simp only [sumN]; rw [sumN_congr (fun i hi => h i (by omega)), h n (by omega)]
theorem sumN_add (f g : Nat → Int) : ∀ n, sumN (fun i => f i + g i) n = sumN f n + sumN g n
  | 0 => rfl
  | n + 1 => by simp only [sumN]; rw [sumN_add]; omega
theorem sumN_mul (c : Int) (f : Nat → Int) : ∀ n, sumN (fun i => c * f i) n = c * sumN f n
  | 0 => by simp [sumN]
  | n + 1 => by simp only [sumN]; rw [sumN_mul, Int.mul_add]
theorem sumN_zero : ∀ n, sumN (fun _ => 0) n = 0
  | 0 => rfl
  | n + 1 => by simp only [sumN]; rw [sumN_zero]; omega
theorem sumN_le {f g : Nat → Int} : ∀ {n : Nat}, (∀ i, i < n → f i ≤ g i) → sumN f n ≤ sumN g n
  | 0, _ => Int.le_refl _
  | n + 1, h => by
    simp only [sumN]
    have := sumN_le (n := n) (fun i hi => h i (by omega))
    have := h n (by omega)
    omega
theorem sumN_nonneg {f : Nat → Int} {n : Nat} (h : ∀ i, i < n → 0 ≤ f i) : 0 ≤ sumN f n := by
  have := sumN_le (f := fun _ => 0) (g := f) (n := n) h
  rw [sumN_zero] at this; exact this
theorem sumN_swap (f : Nat → Nat → Int) (m : Nat) : ∀ n, sumN (fun i => sumN (fun j => f i j) m) n = sumN (fun j => sumN (fun i => f i j) n) m
  | 0 => by simp only [sumN]; rw [sumN_zero]
  | n + 1 => by
    simp only [sumN]
    rw [sumN_swap f m n, ← sumN_add]
theorem sumN_pick (f : Nat → Int) (a : Nat) : ∀ n, sumN (fun v => if v = a then f v else 0) n = if a < n then f a else 0
  | 0 => by simp [sumN]
  | n + 1 => by
    simp only [sumN]
    rw [sumN_pick]
    by_cases h : n = a
    · subst h; simp
    · by_cases h2 : a < n
      · rw [if_pos h2, if_neg h, if_pos (by omega)]; omega
      · rw [if_neg h2, if_neg h, if_neg (by omega)]; omega
/-- all terms not below 0 and their sum 0: each is 0 -/
theorem sumN_all0 {f : Nat → Int} : ∀ {n : Nat}, (∀ i, i < n → 0 ≤ f i) → sumN f n ≤ 0 → ∀ i, i < n → f i = 0
  | 0, _, _, i, hi => by omega
  | n + 1, h, hs, i, hi => by
    simp only [sumN] at hs
    have h1 := sumN_nonneg (n := n) (fun i hi => h i (by omega))
    have h2 := h n (by omega)
    rcases Nat.lt_succ_iff_lt_or_eq.1 hi with hi | rfl
    · exact sumN_all0 (n := n) (fun i hi => h i (by omega)) (by omega) i hi
    · omega
def one (a b : Nat) : Int := if a = b then 1 else 0
structure NetG where
  K : Nat
  fr : Nat → Nat
  to : Nat → Nat
  ln : Nat → Int
  wd : Nat → Int
def eNo (s : Int) : Nat := (max s (-s) - 1).toNat
def sg (s : Int) : Int := if s < 0 then -1 else 1
namespace NetG
def arcs (G : NetG) : Arcs Int := ⟨fun s => if s < 0 then G.to (eNo s) else G.fr (eNo s), fun s => if s < 0 then G.fr (eNo s) else G.to (eNo s), fun s => if s < 0 then -G.ln (eNo s) else G.ln (eNo s)⟩
def IsStep (G : NetG) (s : Int) : Prop := 1 ≤ max s (-s) ∧ max s (-s) ≤ G.K
/-- a step that a flow allows -/
def Ok (G : NetG) (f : Nat → Int) (s : Int) : Prop := G.IsStep s ∧ if s < 0 then 0 < f (eNo s) else f (eNo s) < G.wd (eNo s)
def Steps (G : NetG) (f : Nat → Int) (L : List Int) : Prop := ∀ s, s ∈ L ↔ G.Ok f s
def Fs (G : NetG) (f : Nat → Int) : Prop := ∀ k, k < G.K → 0 ≤ f k ∧ f k ≤ G.wd k
def out (G : NetG) (f : Nat → Int) (v : Nat) : Int := sumN (fun k => f k * (one (G.fr k) v - one (G.to k) v)) G.K
def cost (G : NetG) (f : Nat → Int) : Int := sumN (fun k => G.ln k * f k) G.K
def Fine (G : NetG) (N : Nat) : Prop := ∀ k, k < G.K → G.fr k < N ∧ G.to k < N
end NetG
theorem eNo_lt {G : NetG} {s : Int} (h : G.IsStep s) : eNo s < G.K := by unfold eNo; have := h.1; have := h.2; omega
theorem eNo_pos (k : Nat) : eNo ((k : Int) + 1) = k := by unfold eNo; omega
theorem eNo_neg (k : Nat) : eNo (-(k : Int) - 1) = k := by unfold eNo; omega
theorem eNo_eq {s t : Int} (hs : 1 ≤ max s (-s)) (ht : 1 ≤ max t (-t)) (h : eNo s = eNo t) : s = t ∨ s = -t := by unfold eNo at h; omega
theorem ok_pos {G : NetG} {f : Nat → Int} {k : Nat} (hk : k < G.K) (h : f k < G.wd k) : G.Ok f ((k : Int) + 1) := ⟨⟨by omega, by omega⟩, by rw [if_neg (by omega), eNo_pos]; exact h⟩
theorem ok_neg {G : NetG} {f : Nat → Int} {k : Nat} (hk : k < G.K) (h : 0 < f k) : G.Ok f (-(k : Int) - 1) := ⟨⟨by omega, by omega⟩, by rw [if_pos (by omega), eNo_neg]; exact h⟩
theorem steps_in {G : NetG} {N : Nat} {f : Nat → Int} {L : List Int} (hG : G.Fine N) (hL : G.Steps f L) : G.arcs.In N L := fun s hs => by
  have h1 := hG _ (eNo_lt ((hL s).1 hs).1)
  simp only [NetG.arcs]
  split <;> exact ⟨by omega, by omega⟩
/-! the worth of prices -/
theorem sum_one (p : Nat → Int) {a N : Nat} (h : a < N) : sumN (fun v => p v * one a v) N = p a := by
  rw [show (fun v => p v * one a v) = (fun v => if v = a then p v else 0) from funext fun v => by unfold one; by_cases e : v = a; rw [if_pos e, if_pos e.symm]; omega; rw [if_neg e, if_neg (fun h => e h.symm)]; omega]
  rw [sumN_pick, if_pos h]
theorem sum_out {G : NetG} {N : Nat} (hG : G.Fine N) (p f : Nat → Int) : sumN (fun v => p v * G.out f v) N = sumN (fun k => f k * (p (G.fr k) - p (G.to k))) G.K := by
  rw [show (fun v => p v * G.out f v) = (fun v => sumN (fun k => f k * (p v * one (G.fr k) v - p v * one (G.to k) v)) G.K) from funext fun v => by
    unfold NetG.out
    rw [← sumN_mul]
    exact sumN_congr fun k _ => by grind]
  rw [sumN_swap]
  refine sumN_congr fun k hk => ?_
  rw [sumN_mul]
  congr 1
  rw [show (fun v => p v * one (G.fr k) v - p v * one (G.to k) v) = (fun v => p v * one (G.fr k) v + (-1) * (p v * one (G.to k) v)) from funext fun v => by omega]
  rw [sumN_add, sumN_mul, sum_one p (hG k hk).1, sum_one p (hG k hk).2]
  omega
/-- prices for all steps of a flow: it is a cheapest one -/
theorem cheapest_of {G : NetG} {N : Nat} (hG : G.Fine N) {f g p : Nat → Int} {L : List Int} (hL : G.Steps f L) (hp : G.arcs.Pot L p) (hf : G.Fs f) (hg : G.Fs g) (hout : ∀ v, v < N → G.out f v = G.out g v) :
    G.cost f ≤ G.cost g ∧ (G.cost g ≤ G.cost f → ∀ k, k < G.K → (G.ln k + p (G.fr k) - p (G.to k)) * (g k - f k) = 0) := by
  have key : sumN (fun k => (G.ln k + p (G.fr k) - p (G.to k)) * (g k - f k)) G.K = G.cost g - G.cost f := by
    have h1 := sum_out hG p f
    have h2 := sum_out hG p g
    rw [sumN_congr (g := fun v => p v * G.out g v) (fun v hv => by rw [hout v hv]), h2] at h1
    have h3 : sumN (fun k => (G.ln k + p (G.fr k) - p (G.to k)) * (g k - f k)) G.K = sumN (fun k => (G.ln k * g k + (-1) * (G.ln k * f k)) + (g k * (p (G.fr k) - p (G.to k)) + (-1) * (f k * (p (G.fr k) - p (G.to k))))) G.K := sumN_congr fun k _ => by grind
    rw [h3, sumN_add, sumN_add, sumN_add, sumN_mul, sumN_mul, h1]
    unfold NetG.cost
    omega
  have pos : ∀ k, k < G.K → 0 ≤ (G.ln k + p (G.fr k) - p (G.to k)) * (g k - f k) := fun k hk => by
    have f1 := hf k hk
    have g1 := hg k hk
    by_cases h1 : f k < g k
    · have h2 := hp _ ((hL _).2 (ok_pos hk (show f k < G.wd k by omega)))
      simp only [NetG.arcs, eNo_pos] at h2
      rw [if_neg (by omega), if_neg (by omega), if_neg (by omega)] at h2
      exact Int.mul_nonneg (by omega) (by omega)
    · by_cases h3 : g k < f k
      · have h2 := hp _ ((hL _).2 (ok_neg hk (show 0 < f k by omega)))
        simp only [NetG.arcs, eNo_neg] at h2
        rw [if_pos (by omega), if_pos (by omega), if_pos (by omega)] at h2
        have := Int.mul_nonneg (show 0 ≤ -(G.ln k + p (G.fr k) - p (G.to k)) by omega) (show 0 ≤ -(g k - f k) by omega)
        rwa [Int.neg_mul_neg] at this
      · rw [show g k - f k = 0 by omega]; omega
  refine ⟨?_, fun hle => sumN_all0 pos (by omega)⟩
  have := sumN_nonneg pos
  omega
/-- the prices of one cheapest flow prove each other one -/
theorem pot_all {G : NetG} {N : Nat} (hG : G.Fine N) {f g p : Nat → Int} {L M : List Int} (hL : G.Steps f L) (hM : G.Steps g M) (hp : G.arcs.Pot L p) (hf : G.Fs f) (hg : G.Fs g) (hout : ∀ v, v < N → G.out f v = G.out g v) (hle : G.cost g ≤ G.cost f) : G.arcs.Pot M p := by
  intro s hs
  obtain ⟨h1, h2⟩ := (hM s).1 hs
  have hk := eNo_lt h1
  have h3 := (cheapest_of hG hL hp hf hg hout).2 hle (eNo s) hk
  have f1 := hf _ hk
  have g1 := hg _ hk
  have hor := Int.mul_eq_zero.1 h3
  have a1 : f (eNo s) < G.wd (eNo s) → 0 ≤ G.ln (eNo s) + p (G.fr (eNo s)) - p (G.to (eNo s)) := fun h => by
    have h2 := hp _ ((hL _).2 (ok_pos hk h))
    simp only [NetG.arcs, eNo_pos] at h2
    rw [if_neg (by omega), if_neg (by omega), if_neg (by omega)] at h2
    omega
  have a2 : 0 < f (eNo s) → G.ln (eNo s) + p (G.fr (eNo s)) - p (G.to (eNo s)) ≤ 0 := fun h => by
    have h2 := hp _ ((hL _).2 (ok_neg hk h))
    simp only [NetG.arcs, eNo_neg] at h2
    rw [if_pos (by omega), if_pos (by omega), if_pos (by omega)] at h2
    omega
  simp only [NetG.arcs]
  split at h2
  · rename_i hneg
    rw [if_pos hneg, if_pos hneg, if_pos hneg]
    rcases hor with h | h
    · omega
    · have := a2 (by omega); omega
  · rename_i hneg
    rw [if_neg hneg, if_neg hneg, if_neg hneg]
    rcases hor with h | h
    · omega
    · have := a1 (by omega); omega
/-! a flow turned along steps -/
def turnG (f : Nat → Int) (s : Int) : Nat → Int := upd f (eNo s) (f (eNo s) + sg s)
theorem sumN_upd (w f : Nat → Int) (a : Nat) (d : Int) : ∀ n, sumN (fun k => w k * upd f a (f a + d) k) n = sumN (fun k => w k * f k) n + if a < n then w a * d else 0
  | 0 => by simp [sumN]
  | n + 1 => by
    simp only [sumN]
    rw [sumN_upd]
    by_cases h : n = a
    · subst h
      rw [upd_same, if_neg (by omega), if_pos (by omega), Int.mul_add]; omega
    · rw [upd_ne h]
      by_cases h2 : a < n
      · rw [if_pos h2, if_pos (by omega)]; omega
      · rw [if_neg h2, if_neg (by omega)]; omega
theorem turnG_cost {G : NetG} (f : Nat → Int) {s : Int} (h : G.IsStep s) : G.cost (turnG f s) = G.cost f + G.arcs.ln s := by
  unfold NetG.cost turnG
  rw [sumN_upd, if_pos (eNo_lt h)]
  simp only [NetG.arcs, sg]
  split <;> omega
theorem turnG_out {G : NetG} (f : Nat → Int) {s : Int} (h : G.IsStep s) (v : Nat) : G.out (turnG f s) v = G.out f v + one (G.arcs.fr s) v - one (G.arcs.to s) v := by
  unfold NetG.out turnG
  rw [show (fun k => upd f (eNo s) (f (eNo s) + sg s) k * (one (G.fr k) v - one (G.to k) v)) = (fun k => (one (G.fr k) v - one (G.to k) v) * upd f (eNo s) (f (eNo s) + sg s) k) from funext fun k => Int.mul_comm _ _]
  rw [sumN_upd, if_pos (eNo_lt h), sumN_congr (f := fun k => (one (G.fr k) v - one (G.to k) v) * f k) (g := fun k => f k * (one (G.fr k) v - one (G.to k) v)) (fun k _ => Int.mul_comm _ _)]
  simp only [NetG.arcs, sg]
  split <;> omega
def turnsG (f : Nat → Int) (l : List Int) : Nat → Int := l.foldl turnG f
theorem turnsG_cost {G : NetG} : ∀ (l : List Int) (f : Nat → Int), (∀ s ∈ l, G.IsStep s) → G.cost (turnsG f l) = G.cost f + sumLn G.arcs l
  | [], f, _ => by simp [turnsG, sumLn]
  | s :: l, f, h => by
    have := turnsG_cost l (turnG f s) (fun t ht => h t (List.mem_cons_of_mem _ ht))
    unfold turnsG at this ⊢
    rw [List.foldl_cons, this, turnG_cost f (h s List.mem_cons_self)]
    simp only [sumLn]; omega
/-- what the ends of steps add up to -/
def sumEnd (G : NetG) (v : Nat) : List Int → Int
  | [] => 0
  | s :: l => one (G.arcs.fr s) v - one (G.arcs.to s) v + sumEnd G v l
theorem turnsG_out {G : NetG} (v : Nat) : ∀ (l : List Int) (f : Nat → Int), (∀ s ∈ l, G.IsStep s) → G.out (turnsG f l) v = G.out f v + sumEnd G v l
  | [], f, _ => by simp [turnsG, sumEnd]
  | s :: l, f, h => by
    have := turnsG_out v l (turnG f s) (fun t ht => h t (List.mem_cons_of_mem _ ht))
    unfold turnsG at this ⊢
    rw [List.foldl_cons, this, turnG_out f (h s List.mem_cons_self)]
    simp only [sumEnd]; omega
theorem turnsG_other : ∀ (l : List Int) (f : Nat → Int) (k : Nat), k ∉ l.map eNo → turnsG f l k = f k
  | [], f, k, _ => rfl
  | s :: l, f, k, h => by
    rw [List.map_cons, List.mem_cons, not_or] at h
    have := turnsG_other l (turnG f s) k h.2
    unfold turnsG at this ⊢
    rw [List.foldl_cons, this]
    unfold turnG; exact upd_ne h.1
theorem turnsG_at : ∀ (l : List Int) (f : Nat → Int), (l.map eNo).Nodup → ∀ s ∈ l, turnsG f l (eNo s) = f (eNo s) + sg s
  | [], f, _, s, hs => by simp at hs
  | t :: l, f, h, s, hs => by
    rw [List.map_cons, List.nodup_cons] at h
    rcases List.mem_cons.1 hs with rfl | hs
    · have := turnsG_other l (turnG f s) (eNo s) h.1
      unfold turnsG at this ⊢
      rw [List.foldl_cons, this]
      unfold turnG; rw [upd_same]
    · have hne : eNo s ≠ eNo t := fun e => h.1 (by rw [← e]; exact List.mem_map_of_mem hs)
      have := turnsG_at l (turnG f t) h.2 s hs
      unfold turnsG at this ⊢
      rw [List.foldl_cons, this]
      unfold turnG; rw [upd_ne hne]
theorem turnsG_fs {G : NetG} {f : Nat → Int} {l : List Int} (hf : G.Fs f) (hl : ∀ s ∈ l, G.Ok f s) (hn : (l.map eNo).Nodup) : G.Fs (turnsG f l) := by
  intro k hk
  by_cases hm : k ∈ l.map eNo
  · obtain ⟨s, hs, rfl⟩ := List.mem_map.1 hm
    rw [turnsG_at l f hn s hs]
    have h1 := (hl s hs).2
    have h2 := hf _ hk
    unfold sg
    split at h1
    · rename_i h3; rw [if_pos h3]; omega
    · rename_i h3; rw [if_neg h3]; omega
  · rw [turnsG_other l f k hm]; exact hf k hk
/-- prices that are tight along the steps serve the turned flow -/
theorem turnsG_pot {G : NetG} {f p : Nat → Int} {l L M : List Int} (hL : G.Steps f L) (hM : G.Steps (turnsG f l) M) (hp : G.arcs.Pot L p) (hl : ∀ s ∈ l, G.Ok f s) (ht : ∀ s ∈ l, p (G.arcs.to s) = G.arcs.ln s + p (G.arcs.fr s)) : G.arcs.Pot M p := by
  intro s hs
  obtain ⟨h1, h2⟩ := (hM s).1 hs
  by_cases hm : eNo s ∈ l.map eNo
  · obtain ⟨t, htl, e⟩ := List.mem_map.1 hm
    have h3 := ht t htl
    rcases eNo_eq (hl t htl).1.1 h1.1 e with rfl | rfl
    · omega
    · have e2 : eNo (-s) = eNo s := e
      have hne : s ≠ 0 := fun h => by have := h1.1; rw [h] at this; simp at this
      simp only [NetG.arcs, e2] at h3 ⊢
      by_cases hneg : s < 0
      · rw [if_neg (by omega), if_neg (by omega), if_neg (by omega)] at h3
        rw [if_pos hneg, if_pos hneg, if_pos hneg]; omega
      · rw [if_pos (by omega), if_pos (by omega), if_pos (by omega)] at h3
        rw [if_neg hneg, if_neg hneg, if_neg hneg]; omega
  · rw [turnsG_other l f _ hm] at h2
    exact hp s ((hL s).2 ⟨h1, h2⟩)
/-- the steps of a chain go along different roads -/
theorem chn_roads {G : NetG} {b : Nat → Option Int} {N : Nat} {f : Nat → Int} {L : List Int} (hL : G.Steps f L) (hb : ∀ v, v < N → ∀ s, b v = some s → s ∈ L ∧ G.arcs.to s = v ∧ G.arcs.fr s < N) {v : Nat} {l : List Int} {r : Nat} (hc : Chn G.arcs b v l r) : v < N → (l.map eNo).Nodup := by
  induction hc with
  | nil _ => intro _; simp
  | @cons v s l r h1 h2 ih =>
    intro hv
    obtain ⟨e1, e2, e3⟩ := hb v hv s h1
    rw [List.map_cons, List.nodup_cons]
    refine ⟨fun hm => ?_, ih e3⟩
    have hl : ∀ t ∈ l, t ∈ L := h2.arcs (P := fun v => v < N) (Q := fun t => t ∈ L) e3 (fun v t hv ht => ⟨(hb v hv t ht).2.2, (hb v hv t ht).1⟩)
    obtain ⟨t, ht, e⟩ := List.mem_map.1 hm
    have hs1 := ((hL s).1 e1).1
    have nd : (v :: nodesOf G.arcs (s :: l)).Nodup := Chn.nodup (.cons h1 h2)
    have nd2 : (G.arcs.fr s :: nodesOf G.arcs l).Nodup := h2.nodup
    have hft : G.arcs.fr t ∈ nodesOf G.arcs l := List.mem_map_of_mem ht
    rcases eNo_eq ((hL t).1 (hl t ht)).1.1 hs1.1 e with rfl | rfl
    · exact (List.nodup_cons.1 nd2).1 hft
    · have e4 : G.arcs.fr (-s) = G.arcs.to s := by
        have e5 : eNo (-s) = eNo s := e
        have := hs1.1
        simp only [NetG.arcs, e5]
        split <;> split <;> first | rfl | omega
      rw [e4, e2] at hft
      refine (List.nodup_cons.1 nd).1 ?_
      simp only [nodesOf, List.map_cons]
      exact List.mem_cons_of_mem _ hft
theorem chn_end {G : NetG} {b : Nat → Option Int} {N : Nat} (hb : ∀ v, v < N → ∀ s, b v = some s → G.arcs.to s = v ∧ G.arcs.fr s < N) {v : Nat} {l : List Int} {r : Nat} (hc : Chn G.arcs b v l r) (w : Nat) : v < N → sumEnd G w l = one r w - one v w := by
  induction hc with
  | nil _ => intro _; simp only [sumEnd]; omega
  | @cons v s l r h1 h2 ih =>
    intro hv
    obtain ⟨e1, e2⟩ := hb v hv s h1
    simp only [sumEnd]
    rw [ih e2, e1]; omega
/-! barriers -/
def sumS (x : Nat → Int) (S : Nat → Bool) (N : Nat) : Int := sumN (fun v => if S v then x v else 0) N
def NetG.cut (G : NetG) (S : Nat → Bool) : Int := sumN (fun k => if S (G.fr k) && !S (G.to k) then G.wd k else 0) G.K
theorem sumS_out {G : NetG} {N : Nat} (hG : G.Fine N) (f : Nat → Int) (S : Nat → Bool) : sumS (G.out f) S N = sumN (fun k => f k * ((if S (G.fr k) then 1 else 0) - (if S (G.to k) then 1 else 0))) G.K := by
  have := sum_out hG (fun v => if S v then 1 else 0) f
  rw [← this]
  unfold sumS
  exact sumN_congr fun v _ => by split <;> omega
theorem out_le_cut {G : NetG} {N : Nat} (hG : G.Fine N) {f : Nat → Int} (hf : G.Fs f) (S : Nat → Bool) : sumS (G.out f) S N ≤ G.cut S := by
  rw [sumS_out hG]
  refine sumN_le fun k hk => ?_
  have h1 := hf k hk
  cases S (G.fr k) <;> cases S (G.to k) <;> simp <;> omega
theorem out_eq_cut {G : NetG} {N : Nat} (hG : G.Fine N) {f : Nat → Int} {L : List Int} (hf : G.Fs f) (hL : G.Steps f L) (S : Nat → Bool) (hS : ∀ s ∈ L, S (G.arcs.fr s) = true → S (G.arcs.to s) = true) : sumS (G.out f) S N = G.cut S := by
  rw [sumS_out hG]
  refine sumN_congr fun k hk => ?_
  have h1 := hf k hk
  have h2 : S (G.fr k) = true → S (G.to k) = false → f k = G.wd k := fun a b => Classical.byContradiction fun hn => by
    have := hS _ ((hL _).2 (ok_pos hk (show f k < G.wd k by omega)))
    simp only [NetG.arcs, eNo_pos] at this
    rw [if_neg (by omega), if_neg (by omega)] at this
    rw [this a] at b; simp at b
  have h3 : S (G.to k) = true → S (G.fr k) = false → f k = 0 := fun a b => Classical.byContradiction fun hn => by
    have := hS _ ((hL _).2 (ok_neg hk (show 0 < f k by omega)))
    simp only [NetG.arcs, eNo_neg] at this
    rw [if_pos (by omega), if_pos (by omega)] at this
    rw [this a] at b; simp at b
  cases e1 : S (G.fr k) <;> cases e2 : S (G.to k) <;> simp [e1, e2] at h2 h3 ⊢ <;> omega
end Go.Proofs.Ytbejgbflipoboaa
