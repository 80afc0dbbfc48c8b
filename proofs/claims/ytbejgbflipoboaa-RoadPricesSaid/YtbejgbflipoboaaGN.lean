/- Plain words of labels along arcs: a last round that still changes something has gone round a way that is shorter than nothing. No program in sight. -/
import Derived.Test.YtbejgbflipoboaaGD
namespace Go.Proofs.Ytbejgbflipoboaa
section
variable {α : Type} {A : Arcs α} {far : Int}
structure NInv (A : Arcs α) (far : Int) (N : Nat) (L : List α) (r clk : Nat) (st : Lb α) (u t : Nat → Nat) : Prop where
  edge : ∀ v, v < N → ∀ s, st.by_ v = some s → s ∈ L ∧ A.to s = v ∧ st.at_ (A.fr s) + A.ln s + (if u v < u (A.fr s) then 1 else 0) ≤ st.at_ v ∧ t v ≤ t (A.fr s) + 1
  some_ : ∀ v, v < N → 1 ≤ t v → ∃ s, st.by_ v = some s
  tle : ∀ v, v < N → t v ≤ r
  uniq : ∀ v w, v < N → w < N → st.by_ v ≠ none → st.by_ w ≠ none → u v = u w → v = w
  ult : ∀ v, v < N → u v ≤ clk
  old : ∀ s ∈ L, t (A.fr s) + 1 < r → st.at_ (A.to s) ≤ st.at_ (A.fr s) + A.ln s
  near : ∀ v, v < N → st.at_ v < far
theorem ninv_start {N : Nat} {L : List α} {first : Nat → Int} (h : ∀ v, v < N → first v < far) (k : Int) : NInv A far N L 1 0 ⟨first, fun _ => none, k⟩ (fun _ => 0) (fun _ => 0) :=
  ⟨fun v _ s h => by simp at h, fun v _ h => by simp at h, fun _ _ => by omega, fun v w _ _ h => by simp at h, fun _ _ => Nat.le_refl _, fun s _ h => by simp at h, h⟩
theorem ninv_relax {N : Nat} {L : List α} (hL : A.In N L) (hne : ∀ s ∈ L, A.fr s ≠ A.to s) {r clk : Nat} {st : Lb α} {u t : Nat → Nat} (h : NInv A far N L r clk st u t) {s : α} (hs : s ∈ L) (hc : A.Cond far st s) :
    NInv A far N L r (clk + 1) (A.put st s) (upd u (A.to s) (clk + 1)) (upd t (A.to s) r) := by
  have c1 := hc.1
  have c2 := hc.2
  have hs1 := hL s hs
  have hs2 := hne s hs
  have hu := h.ult _ hs1.1
  refine ⟨fun v hv q hq => ?_, fun v hv hq => ?_, fun v hv => ?_, fun v w hv hw h1 h2 h3 => ?_, fun v hv => ?_, fun q hq h1 => ?_, fun v hv => ?_⟩
  · have hq : upd st.by_ (A.to s) (some s) v = some q := hq
    show q ∈ L ∧ A.to q = v ∧ upd st.at_ (A.to s) (st.at_ (A.fr s) + A.ln s) (A.fr q) + A.ln q + (if upd u (A.to s) (clk + 1) v < upd u (A.to s) (clk + 1) (A.fr q) then 1 else 0) ≤ upd st.at_ (A.to s) (st.at_ (A.fr s) + A.ln s) v ∧ upd t (A.to s) r v ≤ upd t (A.to s) r (A.fr q) + 1
    by_cases e : v = A.to s
    · subst e
      rw [upd_same] at hq
      cases hq
      rw [upd_same, upd_same, upd_same, upd_ne hs2, upd_ne hs2, upd_ne hs2, if_neg (by omega)]
      refine ⟨hs, rfl, by omega, ?_⟩
      refine Classical.byContradiction fun hn => ?_
      have := h.old s hs (by omega)
      omega
    · rw [upd_ne e] at hq
      obtain ⟨e1, e2, e3, e4⟩ := h.edge v hv q hq
      have hvu := h.ult v hv
      rw [upd_ne e, upd_ne e, upd_ne e]
      by_cases e5 : A.fr q = A.to s
      · have e6 := h.tle _ hs1.2
        rw [e5] at e3 e4 ⊢
        rw [upd_same, upd_same, upd_same, if_pos (by omega)]
        refine ⟨e1, e2, ?_, by omega⟩
        split at e3 <;> omega
      · rw [upd_ne e5, upd_ne e5, upd_ne e5]
        exact ⟨e1, e2, e3, e4⟩
  · have hq : 1 ≤ upd t (A.to s) r v := hq
    show ∃ q, upd st.by_ (A.to s) (some s) v = some q
    by_cases e : v = A.to s
    · subst e; exact ⟨s, by rw [upd_same]⟩
    · rw [upd_ne e] at hq ⊢; exact h.some_ v hv hq
  · by_cases e : v = A.to s
    · subst e; rw [upd_same]; exact Nat.le_refl _
    · rw [upd_ne e]; exact h.tle v hv
  · have h1 : upd st.by_ (A.to s) (some s) v ≠ none := h1
    have h2 : upd st.by_ (A.to s) (some s) w ≠ none := h2
    have u1 := h.ult v hv
    have u2 := h.ult w hw
    by_cases e1 : v = A.to s
    · by_cases e2 : w = A.to s
      · rw [e1, e2]
      · rw [e1, upd_same, upd_ne e2] at h3; omega
    · by_cases e2 : w = A.to s
      · rw [e2, upd_same, upd_ne e1] at h3; omega
      · rw [upd_ne e1] at h1 h3
        rw [upd_ne e2] at h2 h3
        exact h.uniq v w hv hw h1 h2 h3
  · by_cases e : v = A.to s
    · subst e; rw [upd_same]; exact Nat.le_refl _
    · rw [upd_ne e]; have := h.ult v hv; omega
  · show upd st.at_ _ _ _ ≤ upd st.at_ _ _ _ + _
    by_cases e : A.fr q = A.to s
    · rw [e, upd_same] at h1; omega
    · rw [upd_ne e] at h1 ⊢
      have := h.old q hq h1
      by_cases e2 : A.to q = A.to s
      · rw [e2] at this ⊢; rw [upd_same]; omega
      · rw [upd_ne e2]; exact this
  · show upd st.at_ _ _ v < far
    have := h.near v hv
    by_cases e : v = A.to s
    · subst e; rw [upd_same]; omega
    · rw [upd_ne e]; exact this
theorem ninv_fold {N : Nat} {L : List α} (hL : A.In N L) (hne : ∀ s ∈ L, A.fr s ≠ A.to s) {r : Nat} : ∀ (l done : List α), (∀ s ∈ l, s ∈ L) → ∀ (clk : Nat) (st : Lb α) (u t : Nat → Nat), NInv A far N L r clk st u t → (∀ s ∈ done, t (A.fr s) < r → st.at_ (A.to s) ≤ st.at_ (A.fr s) + A.ln s) → (0 ≤ st.last → ∃ v, v < N ∧ st.last = v ∧ t v = r) →
    ∃ clk' u' t', NInv A far N L r clk' (l.foldl (A.relax far) st) u' t' ∧ (∀ s, s ∈ done ∨ s ∈ l → t' (A.fr s) < r → (l.foldl (A.relax far) st).at_ (A.to s) ≤ (l.foldl (A.relax far) st).at_ (A.fr s) + A.ln s) ∧ (0 ≤ (l.foldl (A.relax far) st).last → ∃ v, v < N ∧ (l.foldl (A.relax far) st).last = v ∧ t' v = r)
  | [], done, _, clk, st, u, t, h, hd, hl => ⟨clk, u, t, h, fun s hs => hd s (by rcases hs with hs | hs; exact hs; simp at hs), hl⟩
  | s :: l, done, hl, clk, st, u, t, h, hd, hla => by
    have hs := hl s List.mem_cons_self
    rw [List.foldl_cons]
    have key : ∃ clk' u' t', NInv A far N L r clk' (A.relax far st s) u' t' ∧ (∀ q ∈ s :: done, t' (A.fr q) < r → (A.relax far st s).at_ (A.to q) ≤ (A.relax far st s).at_ (A.fr q) + A.ln q) ∧ (0 ≤ (A.relax far st s).last → ∃ v, v < N ∧ (A.relax far st s).last = v ∧ t' v = r) := by
      by_cases hc : A.Cond far st s
      · have hrl : A.relax far st s = A.put st s := by unfold Arcs.relax; rw [if_pos hc]
        rw [hrl]
        refine ⟨_, _, _, ninv_relax hL hne h hs hc, fun q hq h1 => ?_, fun _ => ⟨A.to s, (hL s hs).2, rfl, upd_same _ _ _⟩⟩
        have hne2 := hne s hs
        show upd st.at_ _ _ _ ≤ upd st.at_ _ _ _ + _
        rcases List.mem_cons.1 hq with rfl | hq
        · rw [upd_same, upd_ne hne2]; exact Int.le_refl _
        · by_cases e : A.fr q = A.to s
          · rw [e, upd_same] at h1; omega
          · rw [upd_ne e] at h1 ⊢
            have := hd q hq h1
            have c2 := hc.2
            by_cases e2 : A.to q = A.to s
            · rw [e2] at this ⊢; rw [upd_same]; omega
            · rw [upd_ne e2]; exact this
      · rw [relax_idle hc]
        refine ⟨clk, u, t, h, fun q hq h1 => ?_, hla⟩
        rcases List.mem_cons.1 hq with rfl | hq
        · have := h.near _ (hL _ hs).1
          unfold Arcs.Cond at hc
          omega
        · exact hd q hq h1
    obtain ⟨clk', u', t', k1, k2, k3⟩ := key
    obtain ⟨c2, u2, t2, m1, m2, m3⟩ := ninv_fold hL hne l (s :: done) (fun q hq => hl q (List.mem_cons_of_mem _ hq)) clk' _ u' t' k1 k2 k3
    refine ⟨c2, u2, t2, m1, fun q hq => m2 q ?_, m3⟩
    rcases hq with hq | hq
    · exact .inl (List.mem_cons_of_mem _ hq)
    · rcases List.mem_cons.1 hq with rfl | hq
      · exact .inl List.mem_cons_self
      · exact .inr hq
theorem ninv_reach {N : Nat} {L : List α} (hL : A.In N L) (hne : ∀ s ∈ L, A.fr s ≠ A.to s) {first : Nat → Int} (h : ∀ v, v < N → first v < far) (k0 : Int) : ∀ k, ∃ clk u t, NInv A far N L (k + 1) clk (A.reach far L ⟨first, fun _ => none, k0⟩ k) u t ∧ (1 ≤ k → 0 ≤ (A.reach far L ⟨first, fun _ => none, k0⟩ k).last → ∃ v, v < N ∧ (A.reach far L ⟨first, fun _ => none, k0⟩ k).last = v ∧ k ≤ t v)
  | 0 => ⟨0, _, _, ninv_start h k0, fun h => by omega⟩
  | k + 1 => by
    obtain ⟨clk, u, t, h1, _⟩ := ninv_reach hL hne h k0 k
    obtain ⟨c2, u2, t2, m1, m2, m3⟩ := ninv_fold (A := A) (far := far) hL hne L [] (fun _ h => h) clk { A.reach far L ⟨first, fun _ => none, k0⟩ k with last := -1 } u t ⟨h1.edge, h1.some_, h1.tle, h1.uniq, h1.ult, h1.old, h1.near⟩ (fun s hs => by simp at hs) (fun h => by simp at h)
    refine ⟨c2, u2, t2, ⟨m1.edge, m1.some_, fun v hv => by have := m1.tle v hv; omega, m1.uniq, m1.ult, fun s hs ht => m2 s (.inr hs) (by omega), m1.near⟩, fun _ hl => ?_⟩
    obtain ⟨v, hv, e, e2⟩ := m3 hl
    exact ⟨v, hv, e, by omega⟩
/-- the node before -/
def predO (A : Arcs α) (b : Nat → Option α) (v : Nat) : Nat := match b v with | some s => A.fr s | none => v
def predK (A : Arcs α) (b : Nat → Option α) (v : Nat) : Nat → Nat
  | 0 => v
  | k + 1 => predO A b (predK A b v k)
theorem predK_add (b : Nat → Option α) (v i : Nat) : ∀ j, predK A b v (i + j) = predK A b (predK A b v i) j
  | 0 => rfl
  | j + 1 => by rw [← Nat.add_assoc]; simp only [predK]; rw [predK_add b v i j]
/-- a round: the arcs back from a node to itself, with no node twice -/
structure Cyc (A : Arcs α) (b : Nat → Option α) (c : Nat → Nat) (l : List α) : Prop where
  len : 1 ≤ l.length
  back : c l.length = c 0
  step : ∀ y, (h : y < l.length) → b (c y) = some l[y] ∧ A.fr l[y] = c (y + 1)
  dist : ∀ i j, i < j → j < l.length → c i ≠ c j
theorem pigeon {N : Nat} (f : Nat → Nat) (h : ∀ i, i ≤ N → f i < N) : ∃ i j, i < j ∧ j ≤ N ∧ f i = f j := by
  refine Classical.byContradiction fun hn => ?_
  have : ((List.range (N + 1)).map f).Nodup := by
    rw [List.Nodup, List.pairwise_map]
    refine List.Pairwise.imp_of_mem ?_ List.pairwise_lt_range
    intro a b ha hb hab e
    exact hn ⟨a, b, hab, by have := List.mem_range.1 hb; omega, e⟩
  have h2 := range_len (N := N) this (fun x hx => by
    obtain ⟨i, hi, rfl⟩ := List.mem_map.1 hx
    exact h i (by have := List.mem_range.1 hi; omega))
  simp at h2
  omega
theorem least_nat {p : Nat → Prop} : ∀ n, p n → ∃ m, p m ∧ m ≤ n ∧ ∀ k, k < m → ¬ p k := by
  intro n
  induction n using Nat.strongRecOn with
  | _ n ih =>
    intro h
    by_cases hk : ∃ k, k < n ∧ p k
    · obtain ⟨k, h1, h2⟩ := hk
      obtain ⟨m, a, b, c⟩ := ih k h1 h2
      exact ⟨m, a, by omega, c⟩
    · exact ⟨n, h, Nat.le_refl _, fun k h1 h2 => hk ⟨k, h1, h2⟩⟩
theorem cyc_of {b : Nat → Option α} {c d : Nat} (hd : 1 ≤ d) (hb : predK A b c d = c) (hs : ∀ y, y < d → ∃ s, b (predK A b c y) = some s) : ∃ l, Cyc A b (predK A b c) l ∧ l.length ≤ d := by
  obtain ⟨m, ⟨m1, m2⟩, m3, m4⟩ := least_nat (p := fun d => 1 ≤ d ∧ predK A b c d = c) d ⟨hd, hb⟩
  have hl : ∀ k, k ≤ m → ∃ l : List α, l.length = k ∧ ∀ y, (h : y < l.length) → b (predK A b c y) = some l[y] := by
    intro k
    induction k with
    | zero => intro _; exact ⟨[], rfl, fun y h => by simp at h⟩
    | succ k ih =>
      intro hk
      obtain ⟨l, h1, h2⟩ := ih (by omega)
      obtain ⟨s, hs⟩ := hs k (by omega)
      refine ⟨l ++ [s], by simp [h1], fun y hy => ?_⟩
      by_cases e : y < l.length
      · rw [List.getElem_append_left e]; exact h2 y e
      · obtain rfl : y = l.length := by simp at hy; omega
        rw [List.getElem_append_right (Nat.le_refl _)]; simp [h1, hs]
  obtain ⟨l, h1, h2⟩ := hl m (Nat.le_refl _)
  refine ⟨l, ⟨by omega, by rw [h1]; exact m2, fun y hy => ⟨h2 y hy, ?_⟩, fun i j hij hj e => ?_⟩, by omega⟩
  · simp only [predK, predO]; rw [h2 y hy]
  · refine m4 (m - j + i) (by omega) ⟨by omega, ?_⟩
    rw [show m - j + i = i + (m - j) by omega, predK_add, e, ← predK_add, show j + (m - j) = m by omega]
    exact m2
theorem Cyc.lt {b : Nat → Option α} {c : Nat → Nat} {l : List α} (h : Cyc A b c l) {N : Nat} (h0 : c 0 < N) (hb : ∀ v, v < N → ∀ s, b v = some s → A.fr s < N) : ∀ y, y ≤ l.length → c y < N
  | 0, _ => h0
  | y + 1, hy => by
    obtain ⟨h1, h2⟩ := h.step y (by omega)
    rw [← h2]
    exact hb _ (h.lt h0 hb y (by omega)) _ h1
theorem sumLn_append (l m : List α) : sumLn A (l ++ m) = sumLn A l + sumLn A m := by
  induction l with
  | nil => simp [sumLn]
  | cons s l ih => simp only [List.cons_append, sumLn]; rw [ih]; omega
/-- such a round is shorter than nothing -/
theorem cyc_neg {N : Nat} {L : List α} (hL : A.In N L) (hne : ∀ s ∈ L, A.fr s ≠ A.to s) {r clk : Nat} {st : Lb α} {u t : Nat → Nat} (h : NInv A far N L r clk st u t) {c : Nat → Nat} {l : List α} (hc : Cyc A st.by_ c l) (h0 : c 0 < N) : sumLn A l < 0 := by
  have hlt := hc.lt h0 (fun v hv s hs => (hL s (h.edge v hv s hs).1).1)
  have key : ∀ k, k ≤ l.length → st.at_ (c k) + sumLn A (l.take k) < st.at_ (c 0) ∨ (st.at_ (c k) + sumLn A (l.take k) ≤ st.at_ (c 0) ∧ u (c k) ≤ u (c (min k 1)) ∧ u (c (min k 1)) ≤ u (c 0)) := by
    intro k
    induction k with
    | zero => intro _; exact .inr ⟨by simp [sumLn], Nat.le_refl _, Nat.le_refl _⟩
    | succ k ih =>
      intro hk
      obtain ⟨s1, s2⟩ := hc.step k (by omega)
      obtain ⟨e1, e2, e3, e4⟩ := h.edge _ (hlt k (by omega)) _ s1
      rw [s2] at e3 e4
      have hsum : sumLn A (l.take (k + 1)) = sumLn A (l.take k) + A.ln l[k] := by
        rw [List.take_succ_eq_append_getElem (by omega), sumLn_append]; simp [sumLn]
      rw [hsum]
      by_cases hu : u (c k) < u (c (k + 1))
      · rw [if_pos hu] at e3
        rcases ih (by omega) with ih | ⟨ih, _⟩
        · exact .inl (by omega)
        · exact .inl (by omega)
      · rw [if_neg hu] at e3
        rcases ih (by omega) with ih | ⟨ih, i2, i3⟩
        · exact .inl (by omega)
        · refine .inr ⟨by omega, ?_, ?_⟩
          · rw [show min (k + 1) 1 = 1 by omega]
            by_cases e : k = 0
            · subst e; exact Nat.le_refl _
            · rw [show min k 1 = 1 by omega] at i2; omega
          · rw [show min (k + 1) 1 = 1 by omega]
            by_cases e : k = 0
            · subst e; simp at hu; omega
            · rw [show min k 1 = 1 by omega] at i3; exact i3
  have hl := hc.len
  rcases key l.length (Nat.le_refl _) with k | ⟨k1, k2, k3⟩
  · rw [List.take_length, hc.back] at k; omega
  · rw [hc.back, show min l.length 1 = 1 by omega] at k2
    rw [show min l.length 1 = 1 by omega] at k3
    obtain ⟨s1, s2⟩ := hc.step 0 (by omega)
    obtain ⟨e1, e2, _⟩ := h.edge _ h0 _ s1
    have hs1 : st.by_ (c 0) ≠ none := by rw [s1]; simp
    have e10 : c 1 = c 0 := by
      by_cases e : l.length = 1
      · have := hc.back; rw [e] at this; exact this
      · obtain ⟨t1, _⟩ := hc.step 1 (by omega)
        exact h.uniq _ _ (hlt 1 (by omega)) h0 (by rw [t1]; simp) hs1 (by omega)
    exact absurd (by rw [s2, e2]; exact e10) (hne _ e1)
/-- the last round has changed something: going back as often as there are nodes ends on a round that is shorter than nothing -/
theorem reach_cyc {N : Nat} (hN : 1 ≤ N) {L : List α} (hL : A.In N L) (hne : ∀ s ∈ L, A.fr s ≠ A.to s) {first : Nat → Int} (h : ∀ v, v < N → first v < far) (k0 : Int) (hl : 0 ≤ (A.reach far L ⟨first, fun _ => none, k0⟩ N).last) :
    ∃ v, v < N ∧ (A.reach far L ⟨first, fun _ => none, k0⟩ N).last = v ∧ (∀ y, y < N → (∃ s, (A.reach far L ⟨first, fun _ => none, k0⟩ N).by_ (predK A (A.reach far L ⟨first, fun _ => none, k0⟩ N).by_ v y) = some s)) ∧ (∀ y, y ≤ N → predK A (A.reach far L ⟨first, fun _ => none, k0⟩ N).by_ v y < N) ∧
      ∃ l, Cyc A (A.reach far L ⟨first, fun _ => none, k0⟩ N).by_ (predK A (A.reach far L ⟨first, fun _ => none, k0⟩ N).by_ (predK A (A.reach far L ⟨first, fun _ => none, k0⟩ N).by_ v N)) l ∧ l.length ≤ N ∧ sumLn A l < 0 ∧ ∀ s ∈ l, s ∈ L := by
  obtain ⟨clk, u, t, hI, hv⟩ := ninv_reach (A := A) (far := far) hL hne h k0 N
  obtain ⟨v, v1, v2, v3⟩ := hv hN hl
  generalize A.reach far L ⟨first, fun _ => none, k0⟩ N = st at *
  have walk : ∀ y, y ≤ N → predK A st.by_ v y < N ∧ N ≤ t (predK A st.by_ v y) + y := by
    intro y
    induction y with
    | zero => intro _; exact ⟨v1, by simpa [predK] using v3⟩
    | succ y ih =>
      intro hy
      obtain ⟨i1, i2⟩ := ih (by omega)
      obtain ⟨s, hs⟩ := hI.some_ _ i1 (by omega)
      obtain ⟨e1, e2, e3, e4⟩ := hI.edge _ i1 _ hs
      have : predK A st.by_ v (y + 1) = A.fr s := by simp only [predK, predO]; rw [hs]
      rw [this]
      exact ⟨(hL s e1).1, by omega⟩
  have hsome : ∀ y, y < N → ∃ s, st.by_ (predK A st.by_ v y) = some s := fun y hy => by
    obtain ⟨i1, i2⟩ := walk y (by omega)
    exact hI.some_ _ i1 (by omega)
  refine ⟨v, v1, v2, hsome, fun y hy => (walk y hy).1, ?_⟩
  obtain ⟨i, j, hij, hj, e⟩ := pigeon (predK A st.by_ v) (fun i hi => (walk i hi).1)
  -- d = j - i: the last d nodes are a round
  have hshift : predK A st.by_ v (N - (j - i)) = predK A st.by_ v N := by
    rw [show N - (j - i) = i + (N - j) by omega, predK_add, e, ← predK_add, show j + (N - j) = N by omega]
  have hback : predK A st.by_ (predK A st.by_ v N) (j - i) = predK A st.by_ v N := by
    rw [← hshift, ← predK_add, show N - (j - i) + (j - i) = N by omega, hshift]
  obtain ⟨l, hc, hlen⟩ := cyc_of (A := A) (b := st.by_) (by omega : 1 ≤ j - i) hback (fun y hy => by
    rw [← hshift, ← predK_add]; exact hsome _ (by omega))
  have h0 : predK A st.by_ (predK A st.by_ v N) 0 < N := (walk N (Nat.le_refl _)).1
  refine ⟨l, hc, by omega, cyc_neg hL hne hI hc h0, fun s hs => ?_⟩
  obtain ⟨y, hy, rfl⟩ := List.getElem_of_mem hs
  have hlt := hc.lt h0 (fun v hv s hs => (hL s (hI.edge v hv s hs).1).1)
  exact (hI.edge _ (hlt y (by omega)) _ (hc.step y hy).1).1
end
/-! rounds of flows -/
theorem sumLn_two {α : Type} {A : Arcs α} (l : List α) (h : l.length = 2) : sumLn A l = A.ln (l[0]'(by omega)) + A.ln (l[1]'(by omega)) := by
  match l, h with
  | [x, y], _ => simp [sumLn]
theorem cyc_roads {G : NetG} {b : Nat → Option Int} {c : Nat → Nat} {l : List Int} (h : Cyc G.arcs b c l) (hto : ∀ y, (hy : y < l.length) → G.arcs.to l[y] = c y) (hst : ∀ s ∈ l, G.IsStep s) (hneg : sumLn G.arcs l < 0) : (l.map eNo).Nodup := by
  rw [List.Nodup, List.pairwise_map, List.pairwise_iff_getElem]
  intro i j hi hj hij e
  have si := h.step i hi
  have sj := h.step j hj
  have ti := hto i hi
  have tj := hto j hj
  rcases eNo_eq (hst _ (List.getElem_mem hi)).1 (hst _ (List.getElem_mem hj)).1 e with e2 | e2
  · rw [e2, tj] at ti
    exact h.dist i j hij hj ti.symm
  · have hsj := (hst _ (List.getElem_mem hj)).1
    have e3 : eNo (-l[j]) = eNo l[j] := by rw [← e2]; exact e
    have f1 : G.arcs.fr l[i] = G.arcs.to l[j] := by
      rw [e2]; simp only [NetG.arcs, e3]; split <;> split <;> first | rfl | omega
    have f2 : G.arcs.to l[i] = G.arcs.fr l[j] := by
      rw [e2]; simp only [NetG.arcs, e3]; split <;> split <;> first | rfl | omega
    have f3 : G.arcs.ln l[i] = -G.arcs.ln l[j] := by
      rw [e2]; simp only [NetG.arcs, e3]; split <;> split <;> first | rfl | omega
    have a1 : i + 1 = j := Classical.byContradiction fun hn => h.dist (i + 1) j (by omega) hj (by rw [← si.2, f1, tj])
    have a2 : j + 1 = l.length := Classical.byContradiction fun hn => h.dist i (j + 1) (by omega) (by omega) (by rw [← sj.2, ← f2, ti])
    have a3 : i = 0 := Classical.byContradiction fun hn => h.dist 0 i (by omega) hi (by rw [← h.back, ← a2, ← sj.2, ← f2, ti])
    subst a3
    subst a1
    have := sumLn_two (A := G.arcs) l (by omega)
    rw [this] at hneg
    simp only [Nat.zero_add] at f3
    omega
theorem cyc_out {G : NetG} {b : Nat → Option Int} {c : Nat → Nat} {l : List Int} (h : Cyc G.arcs b c l) (hto : ∀ y, (hy : y < l.length) → G.arcs.to l[y] = c y) (v : Nat) : sumEnd G v l = 0 := by
  have app : ∀ (l m : List Int), sumEnd G v (l ++ m) = sumEnd G v l + sumEnd G v m := by
    intro l
    induction l with
    | nil => intro m; simp [sumEnd]
    | cons s l ih => intro m; simp only [List.cons_append, sumEnd]; rw [ih]; omega
  have key : ∀ k, k ≤ l.length → sumEnd G v (l.take k) = one (c k) v - one (c 0) v := by
    intro k
    induction k with
    | zero => intro _; simp [sumEnd]
    | succ k ih =>
      intro hk
      rw [List.take_succ_eq_append_getElem (by omega), app, ih (by omega)]
      simp only [sumEnd]
      rw [(h.step k (by omega)).2, hto k (by omega)]
      omega
  have := key l.length (Nat.le_refl _)
  rw [List.take_length, h.back] at this
  omega
end Go.Proofs.Ytbejgbflipoboaa
