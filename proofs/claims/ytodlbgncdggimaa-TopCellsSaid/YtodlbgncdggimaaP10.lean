/- Plain words of labels, chains, rounds, cells, merged: GA GB GC GD GN CA CB CC. -/
import Derived.Test.YtodlbgncdggimaaP7
/- Plain words of labels along arcs: what rounds of relaxing do. No program in sight. -/
namespace Go.Proofs.Ytodlbgncdggimaa

structure Arcs (α : Type) where
  fr : α → Nat
  to : α → Nat
  ln : α → Int
structure Lb (α : Type) where
  at_ : Nat → Int
  by_ : Nat → Option α
  last : Int
def upd {β : Type} (f : Nat → β) (i : Nat) (v : β) : Nat → β := fun j => if j = i then v else f j
theorem upd_same {β : Type} (f : Nat → β) (i : Nat) (v : β) : upd f i v i = v := by simp [upd]
theorem upd_ne {β : Type} {f : Nat → β} {i j : Nat} {v : β} (h : j ≠ i) : upd f i v j = f j := by simp [upd, h]
def Arcs.Cond {α : Type} (A : Arcs α) (far : Int) (st : Lb α) (s : α) : Prop := st.at_ (A.fr s) < far ∧ st.at_ (A.fr s) + A.ln s < st.at_ (A.to s)
instance {α : Type} (A : Arcs α) (far : Int) (st : Lb α) (s : α) : Decidable (A.Cond far st s) := by unfold Arcs.Cond; exact inferInstance
def Arcs.put {α : Type} (A : Arcs α) (st : Lb α) (s : α) : Lb α := ⟨upd st.at_ (A.to s) (st.at_ (A.fr s) + A.ln s), upd st.by_ (A.to s) (some s), A.to s⟩
def Arcs.relax {α : Type} (A : Arcs α) (far : Int) (st : Lb α) (s : α) : Lb α := if A.Cond far st s then A.put st s else st
def Arcs.round {α : Type} (A : Arcs α) (far : Int) (L : List α) (st : Lb α) : Lb α := L.foldl (A.relax far) { st with last := -1 }
def Arcs.reach {α : Type} (A : Arcs α) (far : Int) (L : List α) (st : Lb α) : Nat → Lb α
  | 0 => st
  | n + 1 => A.round far L (A.reach far L st n)
def Arcs.In {α : Type} (A : Arcs α) (N : Nat) (L : List α) : Prop := ∀ s ∈ L, A.fr s < N ∧ A.to s < N
def Arcs.Pot {α : Type} (A : Arcs α) (L : List α) (p : Nat → Int) : Prop := ∀ s ∈ L, p (A.to s) ≤ A.ln s + p (A.fr s)
def Arcs.Sat {α : Type} (A : Arcs α) (far : Int) (L : List α) (at_ : Nat → Int) : Prop := ∀ s ∈ L, at_ (A.fr s) < far → at_ (A.to s) ≤ at_ (A.fr s) + A.ln s
section
variable {α : Type} {A : Arcs α} {far : Int}
theorem fold_inv {L : List α} (I : Lb α → Prop) (h : ∀ st s, s ∈ L → I st → I (A.relax far st s)) : ∀ {st}, I st → I (L.foldl (A.relax far) st) := by
  induction L with
  | nil => intro st h1; exact h1
  | cons s l ih =>
    intro st h1
    rw [List.foldl_cons]
    exact ih (fun st t ht => h st t (List.mem_cons_of_mem _ ht)) (h st s List.mem_cons_self h1)
theorem fold_done {L : List α} (I : Lb α → Prop) (D : α → Lb α → Prop) (h : ∀ st s, s ∈ L → I st → I (A.relax far st s) ∧ D s (A.relax far st s)) (h2 : ∀ st s t, s ∈ L → t ∈ L → I st → D t st → D t (A.relax far st s)) :
    ∀ {st}, I st → I (L.foldl (A.relax far) st) ∧ ∀ s ∈ L, D s (L.foldl (A.relax far) st) := by
  have key : ∀ (l done : List α), (∀ s ∈ l, s ∈ L) → (∀ s ∈ done, s ∈ L) → ∀ st, I st → (∀ s ∈ done, D s st) → I (l.foldl (A.relax far) st) ∧ ∀ s, s ∈ done ∨ s ∈ l → D s (l.foldl (A.relax far) st) := by
    intro l
    induction l with
    | nil => intro done _ _ st h3 h4; exact ⟨h3, fun s hs => by rcases hs with hs | hs; exact h4 s hs; simp at hs⟩
    | cons s l ih =>
      intro done hl hd st h3 h4
      have hs := hl s List.mem_cons_self
      obtain ⟨h5, h6⟩ := h st s hs h3
      obtain ⟨h7, h8⟩ := ih (s :: done) (fun t ht => hl t (List.mem_cons_of_mem _ ht)) (fun t ht => by
        rcases List.mem_cons.1 ht with rfl | ht
        · exact hs
        · exact hd t ht) (A.relax far st s) h5 (fun t ht => by
        rcases List.mem_cons.1 ht with rfl | ht
        · exact h6
        · exact h2 st s t hs (hd t ht) h3 (h4 t ht))
      refine ⟨h7, fun t ht => h8 t ?_⟩
      rcases ht with ht | ht
      · exact .inl (List.mem_cons_of_mem _ ht)
      · rcases List.mem_cons.1 ht with rfl | ht
        · exact .inl List.mem_cons_self
        · exact .inr ht
  intro st h3
  obtain ⟨h4, h5⟩ := key L [] (fun _ h => h) (fun s hs => by simp at hs) st h3 (fun s hs => by simp at hs)
  exact ⟨h4, fun s hs => h5 s (.inr hs)⟩
theorem relax_le (st : Lb α) (s : α) (v : Nat) : (A.relax far st s).at_ v ≤ st.at_ v := by
  unfold Arcs.relax
  split
  · rename_i h
    simp only [Arcs.put, upd]
    split
    · rename_i e; subst e; have := h.2; omega
    · exact Int.le_refl _
  · exact Int.le_refl _
theorem fold_le (L : List α) (st : Lb α) (v : Nat) : (L.foldl (A.relax far) st).at_ v ≤ st.at_ v :=
  fold_inv (I := fun t => t.at_ v ≤ st.at_ v) (fun t s _ h => Int.le_trans (relax_le t s v) h) (Int.le_refl _)
theorem reach_le (L : List α) (st : Lb α) (v : Nat) : ∀ k, (A.reach far L st k).at_ v ≤ st.at_ v
  | 0 => Int.le_refl _
  | k + 1 => Int.le_trans (fold_le (far := far) (A := A) L { A.reach far L st k with last := -1 } v) (reach_le L st v k)
/-! a round that changes nothing -/
theorem relax_idle {st : Lb α} {s : α} (h : ¬ A.Cond far st s) : A.relax far st s = st := by unfold Arcs.relax; rw [if_neg h]
theorem fold_idle : ∀ {L : List α} {st : Lb α}, (∀ s ∈ L, ¬ A.Cond far st s) → L.foldl (A.relax far) st = st
  | [], _, _ => rfl
  | s :: l, st, h => by rw [List.foldl_cons, relax_idle (h s List.mem_cons_self)]; exact fold_idle (fun t ht => h t (List.mem_cons_of_mem _ ht))
theorem sat_idle {L : List α} {st : Lb α} (h : A.Sat far L st.at_) : A.round far L st = { st with last := -1 } := fold_idle fun s hs hc => by
  have h1 := hc.1
  have h2 := hc.2
  have := h s hs h1
  simp only at h2
  omega
theorem fold_last : ∀ {L : List α} {st : Lb α}, (L.foldl (A.relax far) st).last < 0 → st.last < 0 ∧ ∀ s ∈ L, ¬ A.Cond far st s
  | [], _, h => ⟨h, fun s hs => by simp at hs⟩
  | s :: l, st, h => by
    rw [List.foldl_cons] at h
    obtain ⟨h1, h2⟩ := fold_last h
    by_cases hc : A.Cond far st s
    · unfold Arcs.relax at h1
      rw [if_pos hc] at h1
      simp only [Arcs.put] at h1
      omega
    · rw [relax_idle hc] at h1 h2
      refine ⟨h1, fun t ht => ?_⟩
      rcases List.mem_cons.1 ht with rfl | ht
      · exact hc
      · exact h2 t ht
theorem last_sat {L : List α} {st : Lb α} (h : (A.round far L st).last < 0) : A.Sat far L st.at_ ∧ A.round far L st = { st with last := -1 } := by
  have h1 := (fold_last h).2
  refine ⟨fun s hs hf => ?_, fold_idle h1⟩
  have := h1 s hs
  unfold Arcs.Cond at this
  simp only [hf, true_and] at this
  omega
theorem sat_last {L : List α} {st : Lb α} (h : A.Sat far L st.at_) : (A.round far L st).last = -1 := by rw [sat_idle h]
/-! rounds end where there are prices -/
theorem range_len {N : Nat} {S : List Nat} (h1 : S.Nodup) (h2 : ∀ x ∈ S, x < N) : S.length ≤ N := by
  have := List.Nodup.length_le_of_subset h1 (l₂ := List.range N) (fun x hx => List.mem_range.2 (h2 x hx))
  rwa [List.length_range] at this
/-- the nodes S are settled -/
structure Settled (A : Arcs α) (far : Int) (N : Nat) (L : List α) (p : Nat → Int) (at_ : Nat → Int) (S : List Nat) : Prop where
  nd : S.Nodup
  lt : ∀ u ∈ S, u < N ∧ at_ u < far
  out : ∀ s ∈ L, A.fr s ∈ S → at_ (A.to s) ≤ at_ (A.fr s) + A.ln s
  low : ∀ u ∈ S, ∀ v, v ∉ S → v < N → at_ v < far → at_ u - p u ≤ at_ v - p v
theorem least_out {N : Nat} {S : List Nat} {p at_ : Nat → Int} (h : ∃ v, v < N ∧ v ∉ S ∧ at_ v < far) : ∃ v, (v < N ∧ v ∉ S ∧ at_ v < far) ∧ ∀ u, u < N → u ∉ S → at_ u < far → at_ v - p v ≤ at_ u - p u := by
  have key : ∀ k, (∀ u, u < k → u < N → u ∉ S → ¬ at_ u < far) ∨ ∃ v, (v < N ∧ v ∉ S ∧ at_ v < far) ∧ ∀ u, u < k → u < N → u ∉ S → at_ u < far → at_ v - p v ≤ at_ u - p u := by
    intro k
    induction k with
    | zero => exact .inl (fun u hu => by omega)
    | succ k ih =>
      by_cases hk : k < N ∧ k ∉ S ∧ at_ k < far
      · rcases ih with ih | ⟨v, hv, ih⟩
        · refine .inr ⟨k, hk, fun u hu h1 h2 h3 => ?_⟩
          rcases Nat.lt_succ_iff_lt_or_eq.1 hu with hu | rfl
          · exact absurd h3 (ih u hu h1 h2)
          · exact Int.le_refl _
        · by_cases hc : at_ v - p v ≤ at_ k - p k
          · refine .inr ⟨v, hv, fun u hu h1 h2 h3 => ?_⟩
            rcases Nat.lt_succ_iff_lt_or_eq.1 hu with hu | rfl
            · exact ih u hu h1 h2 h3
            · exact hc
          · refine .inr ⟨k, hk, fun u hu h1 h2 h3 => ?_⟩
            rcases Nat.lt_succ_iff_lt_or_eq.1 hu with hu | rfl
            · have := ih u hu h1 h2 h3; omega
            · exact Int.le_refl _
      · rcases ih with ih | ⟨v, hv, ih⟩
        · refine .inl fun u hu h1 h2 h3 => ?_
          rcases Nat.lt_succ_iff_lt_or_eq.1 hu with hu | rfl
          · exact ih u hu h1 h2 h3
          · exact hk ⟨h1, h2, h3⟩
        · refine .inr ⟨v, hv, fun u hu h1 h2 h3 => ?_⟩
          rcases Nat.lt_succ_iff_lt_or_eq.1 hu with hu | rfl
          · exact ih u hu h1 h2 h3
          · exact absurd ⟨h1, h2, h3⟩ hk
  obtain ⟨v, h1, h2, h3⟩ := h
  rcases key N with k | ⟨w, hw, k⟩
  · exact absurd h3 (k v h1 h1 h2)
  · exact ⟨w, hw, fun u hu => k u hu hu⟩
theorem settle_more {N : Nat} {L : List α} {p : Nat → Int} (hL : A.In N L) (hp : A.Pot L p) {st : Lb α} {S : List Nat} (h : Settled A far N L p st.at_ S) (hv : ∃ v, v < N ∧ v ∉ S ∧ st.at_ v < far) : ∃ v, Settled A far N L p (A.round far L st).at_ (v :: S) := by
  obtain ⟨v, ⟨v1, v2, v3⟩, v4⟩ := least_out (p := p) hv
  have hvS : ∀ u ∈ S, st.at_ u - p u ≤ st.at_ v - p v := fun u hu => h.low u hu v v2 v1 v3
  obtain ⟨⟨i1, i2, i3⟩, hD⟩ := fold_done (A := A) (far := far) (L := L)
    (I := fun t => (∀ u ∈ v :: S, t.at_ u = st.at_ u) ∧ (∀ u, u < N → u ∉ S → t.at_ u < far → st.at_ v - p v ≤ t.at_ u - p u) ∧ (∀ u, t.at_ u ≤ st.at_ u))
    (D := fun s t => A.fr s = v → t.at_ (A.to s) ≤ t.at_ v + A.ln s)
    (fun t s hs hI => by
      obtain ⟨j1, j2, j3⟩ := hI
      have hs1 := hL s hs
      have hs2 := hp s hs
      by_cases hc : A.Cond far t s
      · have c1 := hc.1
        have c2 := hc.2
        have hnot : A.fr s ∉ S := fun hm => by
          have q1 := j1 _ (List.mem_cons_of_mem _ hm)
          have q2 := h.out s hs hm
          have q3 := j3 (A.to s)
          -- labels outside only fall; the arc was met and stays met
          by_cases hm2 : A.to s ∈ v :: S
          · have := j1 _ hm2; omega
          · have hm3 : A.to s ∉ S := fun hh => hm2 (List.mem_cons_of_mem _ hh)
            omega
        have hlow := j2 _ hs1.1 hnot c1
        have hto : A.to s ∉ v :: S := fun hm => by
          have q1 := j1 _ hm
          rcases List.mem_cons.1 hm with e | hm
          · rw [e] at hs2 q1 c2
            omega
          · have := hvS _ hm
            omega
        have hr : A.relax far t s = A.put t s := by unfold Arcs.relax; rw [if_pos hc]
        rw [hr]
        refine ⟨⟨fun u hu => ?_, fun u hu h1 h2 => ?_, fun u => ?_⟩, fun he => ?_⟩
        · simp only [Arcs.put]
          rw [upd_ne (fun e => hto (by rw [← e]; exact hu))]
          exact j1 u hu
        · simp only [Arcs.put, upd] at h2 ⊢
          by_cases e : u = A.to s
          · rw [if_pos e]; subst e; omega
          · rw [if_neg e] at h2 ⊢; exact j2 u hu h1 h2
        · simp only [Arcs.put, upd]
          split
          · rename_i e; subst e; have := j3 (A.to s); omega
          · exact j3 u
        · simp only [Arcs.put]
          have hne : v ≠ A.to s := fun e => hto (by rw [← e]; exact List.mem_cons_self)
          rw [upd_same, upd_ne hne, he]
          exact Int.le_refl _
      · rw [relax_idle hc]
        refine ⟨⟨j1, j2, j3⟩, fun he => ?_⟩
        have := j1 v List.mem_cons_self
        unfold Arcs.Cond at hc
        rw [he, this] at hc
        rw [this]
        omega)
    (fun t s r hs hr hI hd he => by
      obtain ⟨j1, j2, j3⟩ := hI
      have q := hd he
      have h1 := relax_le (A := A) (far := far) t s (A.to r)
      -- v keeps its label
      by_cases hc : A.Cond far t s
      · have c1 := hc.1
        have c2 := hc.2
        have hs1 := hL s hs
        have hs2 := hp s hs
        have hnot : A.fr s ∉ S := fun hm => by
          have q1 := j1 _ (List.mem_cons_of_mem _ hm)
          have q2 := h.out s hs hm
          have q3 := j3 (A.to s)
          by_cases hm2 : A.to s ∈ v :: S
          · have := j1 _ hm2; omega
          · omega
        have hlow := j2 _ hs1.1 hnot c1
        have hto : A.to s ≠ v := fun e => by
          have q1 := j1 v List.mem_cons_self
          rw [e] at hs2 c2
          omega
        have e2 : (A.relax far t s).at_ v = t.at_ v := by
          unfold Arcs.relax; rw [if_pos hc]; simp only [Arcs.put]; exact upd_ne (fun e => hto e.symm)
        rw [e2]
        omega
      · rw [relax_idle hc]; exact q)
    (st := { st with last := -1 }) ⟨fun u _ => rfl, fun u hu h1 h2 => v4 u hu h1 h2, fun u => Int.le_refl _⟩
  refine ⟨v, ⟨List.nodup_cons.2 ⟨v2, h.nd⟩, fun u hu => ?_, fun s hs hm => ?_, fun u hu w hw hwN hwf => ?_⟩⟩
  · have := i1 u hu
    unfold Arcs.round
    rw [this]
    rcases List.mem_cons.1 hu with rfl | hu
    · exact ⟨v1, v3⟩
    · exact h.lt u hu
  · unfold Arcs.round
    rcases List.mem_cons.1 hm with e | hm
    · have := hD s hs e; rw [e]; exact this
    · have q1 := i1 _ (List.mem_cons_of_mem _ hm)
      have q2 := h.out s hs hm
      have q3 := i3 (A.to s)
      rw [q1]
      omega
  · unfold Arcs.round at hwf ⊢
    have q1 := i1 u hu
    have q2 := i2 w hwN (fun hh => hw (List.mem_cons_of_mem _ hh)) hwf
    rw [q1]
    rcases List.mem_cons.1 hu with rfl | hu
    · exact q2
    · have := hvS u hu; omega
theorem settle_all {N : Nat} {L : List α} {p : Nat → Int} (hL : A.In N L) (hp : A.Pot L p) (st : Lb α) : ∀ k, A.Sat far L (A.reach far L st k).at_ ∨ ∃ S, S.length = k ∧ Settled A far N L p (A.reach far L st k).at_ S
  | 0 => .inr ⟨[], rfl, List.nodup_nil, fun u hu => by simp at hu, fun s _ hm => by simp at hm, fun u hu => by simp at hu⟩
  | k + 1 => by
    rcases settle_all hL hp st k with h | ⟨S, hl, h⟩
    · refine .inl ?_
      show A.Sat far L (A.round far L (A.reach far L st k)).at_
      rw [sat_idle h]; exact h
    · by_cases hv : ∃ v, v < N ∧ v ∉ S ∧ (A.reach far L st k).at_ v < far
      · obtain ⟨v, hS⟩ := settle_more hL hp h hv
        exact .inr ⟨v :: S, by simp [hl], hS⟩
      · refine .inl ?_
        have hsat : A.Sat far L (A.reach far L st k).at_ := fun s hs hf => by
          have h1 := hL s hs
          have h2 : A.fr s ∈ S := Classical.byContradiction fun hn => hv ⟨A.fr s, h1.1, hn, hf⟩
          exact h.out s hs h2
        show A.Sat far L (A.round far L (A.reach far L st k)).at_
        rw [sat_idle hsat]; exact hsat
/-- with prices, all is reached in one round less than there are nodes -/
theorem reach_sat {N : Nat} {L : List α} {p : Nat → Int} (hL : A.In (N + 1) L) (hp : A.Pot L p) (st : Lb α) : A.Sat far L (A.reach far L st N).at_ := by
  rcases settle_all hL hp st N with h | ⟨S, hl, h⟩
  · exact h
  · intro s hs hf
    have h1 := hL s hs
    by_cases hm : A.fr s ∈ S
    · exact h.out s hs hm
    · by_cases hm2 : A.to s ∈ S
      · have := h.low _ hm2 _ hm h1.1 hf
        have := hp s hs
        omega
      · by_cases e : A.fr s = A.to s
        · have h2 := hp s hs
          rw [e] at h2 hf ⊢
          omega
        · have := range_len (N := N + 1) (S := A.fr s :: A.to s :: S) (by
            rw [List.nodup_cons, List.nodup_cons]
            refine ⟨fun hh => ?_, hm2, h.nd⟩
            rcases List.mem_cons.1 hh with hh | hh
            · exact e hh
            · exact hm hh) (fun x hx => by
            rcases List.mem_cons.1 hx with rfl | hx
            · exact h1.1
            · rcases List.mem_cons.1 hx with rfl | hx
              · exact h1.2
              · exact (h.lt x hx).1)
          simp at this
          omega
theorem reach_sat' {N : Nat} {L : List α} {p : Nat → Int} (hL : A.In N L) (hp : A.Pot L p) (st : Lb α) : A.Sat far L (A.reach far L st N).at_ := by
  cases N with
  | zero => intro s hs; have := hL s hs; omega
  | succ n =>
    have h := reach_sat (far := far) hL hp st
    show A.Sat far L (A.round far L (A.reach far L st n)).at_
    rw [sat_idle h]; exact h
end
end Go.Proofs.Ytodlbgncdggimaa
/- Plain words of labels along arcs: the chains back, and prices made of labels. No program in sight. -/
namespace Go.Proofs.Ytodlbgncdggimaa

/-- the chain from a node back to where it begins -/
inductive Chn {α : Type} (A : Arcs α) (b : Nat → Option α) : Nat → List α → Nat → Prop
  | nil {v : Nat} : b v = none → Chn A b v [] v
  | cons {v : Nat} {s : α} {l : List α} {r : Nat} : b v = some s → Chn A b (A.fr s) l r → Chn A b v (s :: l) r
def sumLn {α : Type} (A : Arcs α) : List α → Int
  | [] => 0
  | s :: l => A.ln s + sumLn A l
section
variable {α : Type} {A : Arcs α} {far : Int}
theorem Chn.det {b : Nat → Option α} {v : Nat} {l : List α} {r : Nat} (h : Chn A b v l r) : ∀ {l' : List α} {r' : Nat}, Chn A b v l' r' → l = l' ∧ r = r' := by
  induction h with
  | nil h1 =>
    intro l' r' h2
    cases h2 with
    | nil _ => exact ⟨rfl, rfl⟩
    | cons h3 _ => rw [h1] at h3; exact absurd h3 (by simp)
  | cons h1 _ ih =>
    intro l' r' h2
    cases h2 with
    | nil h3 => rw [h1] at h3; exact absurd h3 (by simp)
    | cons h3 h4 =>
      rw [h1] at h3
      cases h3
      obtain ⟨e1, e2⟩ := ih h4
      exact ⟨by rw [e1], e2⟩
/-- the nodes of a chain behind its first one -/
def nodesOf (A : Arcs α) (l : List α) : List Nat := l.map A.fr
theorem Chn.at_node {b : Nat → Option α} {v : Nat} {l : List α} {r : Nat} (h : Chn A b v l r) : ∀ w, w ∈ v :: nodesOf A l → ∃ l', l'.length ≤ l.length ∧ (∀ s ∈ l', s ∈ l) ∧ Chn A b w l' r := by
  induction h with
  | nil h1 =>
    intro w hw
    simp only [nodesOf, List.map_nil, List.mem_singleton] at hw
    subst hw
    exact ⟨[], Nat.le_refl _, fun s h => h, .nil h1⟩
  | @cons v s l r h1 h2 ih =>
    intro w hw
    simp only [nodesOf, List.map_cons] at hw
    rcases List.mem_cons.1 hw with rfl | hw
    · exact ⟨s :: l, Nat.le_refl _, fun _ h => h, .cons h1 h2⟩
    · obtain ⟨l', h3, h4, h5⟩ := ih w hw
      exact ⟨l', by simp; omega, fun t ht => List.mem_cons_of_mem _ (h4 t ht), h5⟩
theorem Chn.nodup {b : Nat → Option α} {v : Nat} {l : List α} {r : Nat} (h : Chn A b v l r) : (v :: nodesOf A l).Nodup := by
  induction h with
  | nil _ => simp [nodesOf]
  | @cons v s l r h1 h2 ih =>
    rw [List.nodup_cons]
    refine ⟨fun hm => ?_, ih⟩
    obtain ⟨l', h3, _, h4⟩ := h2.at_node v hm
    have := (Chn.det (.cons h1 h2) h4).1
    rw [← this] at h3
    simp at h3
    omega
theorem Chn.in_ {b : Nat → Option α} {P : Nat → Prop} {v : Nat} {l : List α} {r : Nat} (h : Chn A b v l r) (hv : P v) (hs : ∀ v s, P v → b v = some s → P (A.fr s)) : P r ∧ (∀ w ∈ v :: nodesOf A l, P w) := by
  induction h with
  | nil _ => exact ⟨hv, fun w hw => by simp [nodesOf] at hw; subst hw; exact hv⟩
  | @cons v s l r h1 h2 ih =>
    obtain ⟨h3, h4⟩ := ih (hs _ _ hv h1)
    refine ⟨h3, fun w hw => ?_⟩
    rcases List.mem_cons.1 hw with rfl | hw
    · exact hv
    · exact h4 w (by simpa [nodesOf] using hw)
theorem Chn.arcs {b : Nat → Option α} {P : Nat → Prop} {Q : α → Prop} {v : Nat} {l : List α} {r : Nat} (h : Chn A b v l r) (hv : P v) (hs : ∀ v s, P v → b v = some s → P (A.fr s) ∧ Q s) : ∀ s ∈ l, Q s := by
  induction h with
  | nil _ => intro s h; simp at h
  | @cons v s l r h1 h2 ih =>
    intro t ht
    obtain ⟨h3, h4⟩ := hs _ _ hv h1
    rcases List.mem_cons.1 ht with rfl | ht
    · exact h4
    · exact ih h3 t ht
theorem Chn.root {b : Nat → Option α} {v : Nat} {l : List α} {r : Nat} (h : Chn A b v l r) : b r = none := by
  induction h with
  | nil h => exact h
  | cons _ _ ih => exact ih
/-- what holds of labels and chains at any time -/
structure LInv (A : Arcs α) (far : Int) (N : Nat) (L : List α) (p first : Nat → Int) (st : Lb α) : Prop where
  edge : ∀ v, v < N → ∀ s, st.by_ v = some s → s ∈ L ∧ A.to s = v ∧ st.at_ (A.fr s) < far ∧ st.at_ v < far ∧ st.at_ (A.fr s) + A.ln s ≤ st.at_ v
  root : ∀ v, v < N → st.by_ v = none → st.at_ v = first v
  ends : ∀ v, v < N → ∃ l r, Chn A st.by_ v l r
theorem linv_start {N : Nat} {L : List α} {p first : Nat → Int} : LInv A far N L p first ⟨first, fun _ => none, -1⟩ := ⟨fun v _ s h => by simp at h, fun v _ _ => rfl, fun v _ => ⟨[], v, .nil rfl⟩⟩
theorem LInv.last {N : Nat} {L : List α} {p first : Nat → Int} {st : Lb α} (h : LInv A far N L p first st) (k : Int) : LInv A far N L p first { st with last := k } := ⟨h.edge, h.root, h.ends⟩
/-- labels fall along chains, told with prices -/
theorem LInv.down {N : Nat} {L : List α} {p first : Nat → Int} {st : Lb α} (h : LInv A far N L p first st) (hL : A.In N L) (hp : A.Pot L p) {v : Nat} (hv : v < N) {l : List α} {r : Nat} (hc : Chn A st.by_ v l r) : ∀ w ∈ v :: nodesOf A l, st.at_ w - p w ≤ st.at_ v - p v := by
  induction hc with
  | nil _ => intro w hw; simp [nodesOf] at hw; subst hw; exact Int.le_refl _
  | @cons v s l r h1 h2 ih =>
    obtain ⟨e1, e2, e3, e4, e5⟩ := h.edge v hv s h1
    have hs := hL s e1
    intro w hw
    rcases List.mem_cons.1 hw with rfl | hw
    · exact Int.le_refl _
    · have := ih hs.1 w (by simpa [nodesOf] using hw)
      have := hp s e1
      rw [e2] at this
      omega
theorem LInv.relax {N : Nat} {L : List α} {p first : Nat → Int} {st : Lb α} (h : LInv A far N L p first st) (hL : A.In N L) (hp : A.Pot L p) (hf : ∀ v, v < N → st.at_ v ≤ far) {s : α} (hs : s ∈ L) : LInv A far N L p first (A.relax far st s) := by
  by_cases hc : A.Cond far st s
  case neg => rw [relax_idle hc]; exact h
  case pos =>
  have c1 := hc.1
  have c2 := hc.2
  have hs1 := hL s hs
  have hs2 := hp s hs
  have hft := hf (A.to s) hs1.2
  have hne : A.fr s ≠ A.to s := fun e => by rw [e] at c2 hs2; omega
  have hr : A.relax far st s = A.put st s := by unfold Arcs.relax; rw [if_pos hc]
  rw [hr]
  have notin : ∀ {w l r}, w < N → Chn A st.by_ w l r → A.to s ∉ w :: nodesOf A l → Chn A (A.put st s).by_ w l r := by
    intro w l r hw hch
    induction hch with
    | @nil w h1 =>
      intro hn
      refine .nil ?_
      show upd st.by_ _ _ w = none
      rw [upd_ne (fun e => hn (by rw [← e]; exact List.mem_cons_self))]; exact h1
    | @cons w t l r h1 h2 ih =>
      intro hn
      obtain ⟨e1, _⟩ := h.edge w hw t h1
      refine .cons (s := t) ?_ (ih (hL t e1).1 (fun hm => hn (List.mem_cons_of_mem _ (by simpa [nodesOf] using hm))))
      show upd st.by_ _ _ w = some t
      rw [upd_ne (fun e => hn (by rw [← e]; exact List.mem_cons_self))]; exact h1
  obtain ⟨lu, ru, hcu⟩ := h.ends (A.fr s) hs1.1
  have hnu : A.to s ∉ A.fr s :: nodesOf A lu := fun hm => by
    have := h.down hL hp hs1.1 hcu _ hm
    omega
  have hto : Chn A (A.put st s).by_ (A.to s) (s :: lu) ru := .cons (by show upd st.by_ _ _ _ = _; rw [upd_same]) (notin hs1.1 hcu hnu)
  refine ⟨fun v hv t ht => ?_, fun v hv hn => ?_, fun v hv => ?_⟩
  · have ht : upd st.by_ (A.to s) (some s) v = some t := ht
    show t ∈ L ∧ A.to t = v ∧ upd st.at_ (A.to s) (st.at_ (A.fr s) + A.ln s) (A.fr t) < far ∧ upd st.at_ (A.to s) (st.at_ (A.fr s) + A.ln s) v < far ∧ upd st.at_ (A.to s) (st.at_ (A.fr s) + A.ln s) (A.fr t) + A.ln t ≤ upd st.at_ (A.to s) (st.at_ (A.fr s) + A.ln s) v
    by_cases e : v = A.to s
    · subst e
      rw [upd_same] at ht
      cases ht
      rw [upd_same, upd_ne hne]
      exact ⟨hs, rfl, c1, by omega, Int.le_refl _⟩
    · rw [upd_ne e] at ht ⊢
      obtain ⟨e1, e2, e3, e4, e5⟩ := h.edge v hv t ht
      refine ⟨e1, e2, ?_, e4, ?_⟩
      · by_cases e6 : A.fr t = A.to s
        · rw [e6, upd_same]; omega
        · rw [upd_ne e6]; exact e3
      · by_cases e6 : A.fr t = A.to s
        · rw [e6, upd_same]; rw [e6] at e5; omega
        · rw [upd_ne e6]; exact e5
  · have hn : upd st.by_ (A.to s) (some s) v = none := hn
    by_cases e : v = A.to s
    · subst e; rw [upd_same] at hn; simp at hn
    · rw [upd_ne e] at hn
      show upd st.at_ _ _ v = _
      rw [upd_ne e]; exact h.root v hv hn
  · obtain ⟨l, r, hch⟩ := h.ends v hv
    -- up to the node that is told anew
    have key : ∀ {w l r}, w < N → Chn A st.by_ w l r → ∃ l' r', Chn A (A.put st s).by_ w l' r' := by
      intro w l r hw hch
      induction hch with
      | @nil w h1 =>
        by_cases e : w = A.to s
        · subst e; exact ⟨_, _, hto⟩
        · exact ⟨[], w, .nil (by show upd st.by_ _ _ w = none; rw [upd_ne e]; exact h1)⟩
      | @cons w t l r h1 h2 ih =>
        by_cases e : w = A.to s
        · subst e; exact ⟨_, _, hto⟩
        · obtain ⟨e1, _⟩ := h.edge w hw t h1
          obtain ⟨l', r', h3⟩ := ih (hL t e1).1
          exact ⟨t :: l', r', .cons (by show upd st.by_ _ _ w = some t; rw [upd_ne e]; exact h1) h3⟩
    exact key hv hch
/-- in the program's terms: the state behind k rounds -/
theorem reach_inv {N : Nat} {L : List α} {p first : Nat → Int} (hL : A.In N L) (hp : A.Pot L p) (hf : ∀ v, v < N → first v ≤ far) {st : Lb α} (h0 : LInv A far N L p first st) (h1 : ∀ v, v < N → st.at_ v ≤ far) : ∀ k, LInv A far N L p first (A.reach far L st k) ∧ ∀ v, v < N → (A.reach far L st k).at_ v ≤ far
  | 0 => ⟨h0, h1⟩
  | k + 1 => by
    obtain ⟨h2, h3⟩ := reach_inv hL hp hf h0 h1 k
    exact fold_inv (A := A) (far := far) (I := fun t => LInv A far N L p first t ∧ ∀ v, v < N → t.at_ v ≤ far) (fun t s hs hI => ⟨hI.1.relax hL hp hI.2 hs, fun v hv => Int.le_trans (relax_le t s v) (hI.2 v hv)⟩) ⟨h2.last (-1), h3⟩
/-- what the state is when nothing changes any more -/
structure LEnd (A : Arcs α) (far : Int) (N : Nat) (L : List α) (p first : Nat → Int) (at_ : Nat → Int) (b : Nat → Option α) : Prop where
  sat : A.Sat far L at_
  edge : ∀ v, v < N → ∀ s, b v = some s → s ∈ L ∧ A.to s = v ∧ at_ (A.fr s) < far ∧ at_ v < far ∧ at_ (A.fr s) + A.ln s = at_ v
  root : ∀ v, v < N → b v = none → at_ v = first v
  ends : ∀ v, v < N → ∃ l r, Chn A b v l r
  le : ∀ v, v < N → at_ v ≤ first v
theorem reach_end {N : Nat} {L : List α} {p first : Nat → Int} (hL : A.In N L) (hp : A.Pot L p) (hf : ∀ v, v < N → first v ≤ far) (k : Int) :
    LEnd A far N L p first (A.reach far L ⟨first, fun _ => none, k⟩ N).at_ (A.reach far L ⟨first, fun _ => none, k⟩ N).by_ := by
  obtain ⟨h1, h2⟩ := reach_inv (A := A) (far := far) (p := p) (first := first) hL hp hf (st := ⟨first, fun _ => none, k⟩) (linv_start.last k) hf N
  have h3 := reach_sat' (far := far) hL hp ⟨first, fun _ => none, k⟩
  refine ⟨h3, fun v hv s hs => ?_, h1.root, h1.ends, fun v hv => reach_le _ _ v N⟩
  obtain ⟨e1, e2, e3, e4, e5⟩ := h1.edge v hv s hs
  have := h3 s e1 e3
  rw [e2] at this
  exact ⟨e1, e2, e3, e4, by omega⟩
theorem LEnd.tele {N : Nat} {L : List α} {p first at_ : Nat → Int} {b : Nat → Option α} (h : LEnd A far N L p first at_ b) (hL : A.In N L) {v : Nat} (hv : v < N) {l : List α} {r : Nat} (hc : Chn A b v l r) : at_ v = at_ r + sumLn A l ∧ r < N ∧ (∀ s ∈ l, s ∈ L) ∧ at_ r = first r ∧ (at_ v < far → at_ r < far) := by
  induction hc with
  | nil h1 => exact ⟨by simp [sumLn], hv, fun s hs => by simp at hs, h.root _ hv h1, fun h => h⟩
  | @cons v s l r h1 h2 ih =>
    obtain ⟨e1, e2, e3, e4, e5⟩ := h.edge v hv s h1
    obtain ⟨i1, i2, i3, i4, i5⟩ := ih (hL s e1).1
    refine ⟨by simp only [sumLn]; omega, i2, fun t ht => ?_, i4, fun _ => i5 e3⟩
    rcases List.mem_cons.1 ht with rfl | ht
    · exact e1
    · exact i3 t ht
theorem Chn.short {b : Nat → Option α} {N : Nat} {L : List α} (hL : A.In N L) {v : Nat} {l : List α} {r : Nat} (h : Chn A b v l r) (hv : v < N) (hl : ∀ s ∈ l, s ∈ L) : l.length + 1 ≤ N := by
  have := range_len (N := N) h.nodup (fun x hx => by
    rcases List.mem_cons.1 hx with rfl | hx
    · exact hv
    · obtain ⟨s, hs, rfl⟩ := List.mem_map.1 hx
      exact (hL s (hl s hs)).1)
  simpa [nodesOf] using this
theorem sumLn_bd {l : List α} {K : Int} (h : ∀ s ∈ l, -K ≤ A.ln s ∧ A.ln s ≤ K) : -(l.length * K) ≤ sumLn A l ∧ sumLn A l ≤ l.length * K := by
  induction l with
  | nil => simp [sumLn]
  | cons s l ih =>
    have := ih (fun t ht => h t (List.mem_cons_of_mem _ ht))
    have h1 := h s List.mem_cons_self
    simp only [sumLn, List.length_cons, Int.natCast_add, Int.add_mul]
    simp only [Int.cast_ofNat_Int, Int.one_mul]
    omega
theorem LEnd.down {N : Nat} {L : List α} {p first at_ : Nat → Int} {b : Nat → Option α} (h : LEnd A far N L p first at_ b) (hL : A.In N L) (hp : A.Pot L p) {v : Nat} (hv : v < N) {l : List α} {r : Nat} (hc : Chn A b v l r) : ∀ w ∈ v :: nodesOf A l, at_ w - p w ≤ at_ v - p v ∧ (at_ v < far → at_ w < far) := by
  induction hc with
  | nil _ => intro w hw; simp [nodesOf] at hw; subst hw; exact ⟨Int.le_refl _, fun h => h⟩
  | @cons v s l r h1 h2 ih =>
    obtain ⟨e1, e2, e3, e4, e5⟩ := h.edge v hv s h1
    have hs := hL s e1
    intro w hw
    rcases List.mem_cons.1 hw with rfl | hw
    · exact ⟨Int.le_refl _, fun h => h⟩
    · have := ih hs.1 w (by simpa [nodesOf] using hw)
      have h3 := hp s e1
      rw [e2] at h3
      exact ⟨by omega, fun _ => this.2 e3⟩
/-- no label is further from its beginning than so many arcs are long -/
theorem LEnd.bd {N : Nat} {L : List α} {p first at_ : Nat → Int} {b : Nat → Option α} (h : LEnd A far N L p first at_ b) (hL : A.In N L) {K : Int} (hK : 0 ≤ K) (hl : ∀ s ∈ L, -K ≤ A.ln s ∧ A.ln s ≤ K) {v : Nat} (hv : v < N) : ∃ r, r < N ∧ b r = none ∧ at_ r = first r ∧ (at_ v < far → first r < far) ∧ first r - (N - 1) * K ≤ at_ v ∧ at_ v ≤ first r + (N - 1) * K := by
  obtain ⟨l, r, hc⟩ := h.ends v hv
  obtain ⟨h1, h2, h3, h4, h9⟩ := h.tele hL hv hc
  have h5 := hc.short hL hv h3
  have h6 := sumLn_bd (A := A) (l := l) (fun s hs => hl s (h3 s hs))
  have h7 : (l.length : Int) * K ≤ (N - 1) * K := Int.mul_le_mul_of_nonneg_right (by omega) hK
  exact ⟨r, h2, hc.root, h4, fun hh => by have := h9 hh; omega, by omega, by omega⟩
/-- prices made of labels: no node further than the cap -/
def capP (far : Int) (p at_ : Nat → Int) (c : Int) (v : Nat) : Int := if at_ v < far ∧ at_ v - p v < c then at_ v else c + p v
theorem capP_pot {L : List α} {p at_ : Nat → Int} {c : Int} (h : A.Sat far L at_) (hp : A.Pot L p) (hb : ∀ s ∈ L, at_ (A.fr s) < far → at_ (A.to s) < far) : A.Pot L (capP far p at_ c) := by
  intro s hs
  have h1 := hp s hs
  unfold capP
  by_cases h2 : at_ (A.fr s) < far ∧ at_ (A.fr s) - p (A.fr s) < c
  · rw [if_pos h2]
    have h3 := h s hs h2.1
    split
    · omega
    · rename_i h4
      have h5 := hb s hs h2.1
      have : ¬ at_ (A.to s) - p (A.to s) < c := fun h6 => h4 ⟨h5, h6⟩
      omega
  · rw [if_neg h2]
    split <;> omega
/-- along the chain to a node these prices are the labels, and each arc is tight -/
theorem capP_tight {N : Nat} {L : List α} {p first at_ : Nat → Int} {b : Nat → Option α} (h : LEnd A far N L p first at_ b) (hL : A.In N L) (hp : A.Pot L p) {v : Nat} (hv : v < N) (hf : at_ v < far) {l : List α} {r : Nat} (hc : Chn A b v l r) :
    ∀ s ∈ l, capP far p at_ (at_ v - p v) (A.to s) = A.ln s + capP far p at_ (at_ v - p v) (A.fr s) := by
  have hd := h.down hL hp hv hc
  have same : ∀ w ∈ v :: nodesOf A l, capP far p at_ (at_ v - p v) w = at_ w := fun w hw => by
    obtain ⟨h1, h2⟩ := hd w hw
    have h3 := h2 hf
    unfold capP
    split <;> omega
  clear hd
  have key : ∀ {w l r'}, w < N → Chn A b w l r' → (∀ x ∈ w :: nodesOf A l, capP far p at_ (at_ v - p v) x = at_ x) → ∀ s ∈ l, capP far p at_ (at_ v - p v) (A.to s) = A.ln s + capP far p at_ (at_ v - p v) (A.fr s) := by
    intro w l r' hw hch
    induction hch with
    | nil _ => intro _ s hs; simp at hs
    | @cons w t l r' h1 h2 ih =>
      intro hsame s hs
      obtain ⟨e1, e2, e3, e4, e5⟩ := h.edge w hw t h1
      rcases List.mem_cons.1 hs with rfl | hs
      · rw [e2, hsame w List.mem_cons_self, hsame (A.fr s) (List.mem_cons_of_mem _ (by simp [nodesOf]))]; omega
      · exact ih (hL t e1).1 (fun x hx => hsame x (List.mem_cons_of_mem _ (by simpa [nodesOf] using hx))) s hs
  exact key hv hc same
end
end Go.Proofs.Ytodlbgncdggimaa
/- Plain words of flows: what leaves, what it costs, steps, prices that prove, barriers. No program in sight. -/
namespace Go.Proofs.Ytodlbgncdggimaa

def sumN (f : Nat → Int) : Nat → Int
  | 0 => 0
  | n + 1 => sumN f n + f n
theorem sumN_congr {f g : Nat → Int} : ∀ {n : Nat}, (∀ i, i < n → f i = g i) → sumN f n = sumN g n
  | 0, _ => rfl
  | n + 1, h => by simp only [sumN]; rw [sumN_congr (fun i hi => h i (by omega)), h n (by omega)]
theorem sumN_add (f g : Nat → Int) : ∀ n, sumN (fun i => f i + g i) n = sumN f n + sumN g n
  | 0 => rfl
  | n + 1 => by simp only [sumN]; rw [sumN_add]; omega
theorem sumN_mul (c : Int) (f : Nat → Int) : ∀ n, sumN (fun i => c * f i) n = c * sumN f n
  | 0 => by simp [sumN]
  | n + 1 => by simp only [sumN]; rw [sumN_mul, Int.mul_add]
theorem sumN_zero : ∀ n, sumN (fun _ => 0) n = 0
  | 0 => rfl
  | n + 1 => by simp only [sumN]; rw [sumN_zero]; omega
theorem sumN_le {f g : Nat → Int} : ∀ {n : Nat}, (∀ i, i < n → f i ≤ g i) → sumN f n ≤ sumN g n
  | 0, _ => Int.le_refl _
  | n + 1, h => by
    simp only [sumN]
    have := sumN_le (n := n) (fun i hi => h i (by omega))
    have := h n (by omega)
    omega
theorem sumN_nonneg {f : Nat → Int} {n : Nat} (h : ∀ i, i < n → 0 ≤ f i) : 0 ≤ sumN f n := by
  have := sumN_le (f := fun _ => 0) (g := f) (n := n) h
  rw [sumN_zero] at this; exact this
theorem sumN_swap (f : Nat → Nat → Int) (m : Nat) : ∀ n, sumN (fun i => sumN (fun j => f i j) m) n = sumN (fun j => sumN (fun i => f i j) n) m
  | 0 => by simp only [sumN]; rw [sumN_zero]
  | n + 1 => by
    simp only [sumN]
    rw [sumN_swap f m n, ← sumN_add]
theorem sumN_pick (f : Nat → Int) (a : Nat) : ∀ n, sumN (fun v => if v = a then f v else 0) n = if a < n then f a else 0
  | 0 => by simp [sumN]
  | n + 1 => by
    simp only [sumN]
    rw [sumN_pick]
    by_cases h : n = a
    · subst h; simp
    · by_cases h2 : a < n
      · rw [if_pos h2, if_neg h, if_pos (by omega)]; omega
      · rw [if_neg h2, if_neg h, if_neg (by omega)]; omega
/-- all terms not below 0 and their sum 0: each is 0 -/
theorem sumN_all0 {f : Nat → Int} : ∀ {n : Nat}, (∀ i, i < n → 0 ≤ f i) → sumN f n ≤ 0 → ∀ i, i < n → f i = 0
  | 0, _, _, i, hi => by omega
  | n + 1, h, hs, i, hi => by
    simp only [sumN] at hs
    have h1 := sumN_nonneg (n := n) (fun i hi => h i (by omega))
    have h2 := h n (by omega)
    rcases Nat.lt_succ_iff_lt_or_eq.1 hi with hi | rfl
    · exact sumN_all0 (n := n) (fun i hi => h i (by omega)) (by omega) i hi
    · omega
def one (a b : Nat) : Int := if a = b then 1 else 0
structure NetG where
  K : Nat
  fr : Nat → Nat
  to : Nat → Nat
  ln : Nat → Int
  wd : Nat → Int
def eNo (s : Int) : Nat := (max s (-s) - 1).toNat
def sg (s : Int) : Int := if s < 0 then -1 else 1
namespace NetG
def arcs (G : NetG) : Arcs Int := ⟨fun s => if s < 0 then G.to (eNo s) else G.fr (eNo s), fun s => if s < 0 then G.fr (eNo s) else G.to (eNo s), fun s => if s < 0 then -G.ln (eNo s) else G.ln (eNo s)⟩
def IsStep (G : NetG) (s : Int) : Prop := 1 ≤ max s (-s) ∧ max s (-s) ≤ G.K
/-- a step that a flow allows -/
def Ok (G : NetG) (f : Nat → Int) (s : Int) : Prop := G.IsStep s ∧ if s < 0 then 0 < f (eNo s) else f (eNo s) < G.wd (eNo s)
def Steps (G : NetG) (f : Nat → Int) (L : List Int) : Prop := ∀ s, s ∈ L ↔ G.Ok f s
def Fs (G : NetG) (f : Nat → Int) : Prop := ∀ k, k < G.K → 0 ≤ f k ∧ f k ≤ G.wd k
def out (G : NetG) (f : Nat → Int) (v : Nat) : Int := sumN (fun k => f k * (one (G.fr k) v - one (G.to k) v)) G.K
def cost (G : NetG) (f : Nat → Int) : Int := sumN (fun k => G.ln k * f k) G.K
def Fine (G : NetG) (N : Nat) : Prop := ∀ k, k < G.K → G.fr k < N ∧ G.to k < N
end NetG
theorem eNo_lt {G : NetG} {s : Int} (h : G.IsStep s) : eNo s < G.K := by unfold eNo; have := h.1; have := h.2; omega
theorem eNo_pos (k : Nat) : eNo ((k : Int) + 1) = k := by unfold eNo; omega
theorem eNo_neg (k : Nat) : eNo (-(k : Int) - 1) = k := by unfold eNo; omega
theorem eNo_eq {s t : Int} (hs : 1 ≤ max s (-s)) (ht : 1 ≤ max t (-t)) (h : eNo s = eNo t) : s = t ∨ s = -t := by unfold eNo at h; omega
theorem ok_pos {G : NetG} {f : Nat → Int} {k : Nat} (hk : k < G.K) (h : f k < G.wd k) : G.Ok f ((k : Int) + 1) := ⟨⟨by omega, by omega⟩, by rw [if_neg (by omega), eNo_pos]; exact h⟩
theorem ok_neg {G : NetG} {f : Nat → Int} {k : Nat} (hk : k < G.K) (h : 0 < f k) : G.Ok f (-(k : Int) - 1) := ⟨⟨by omega, by omega⟩, by rw [if_pos (by omega), eNo_neg]; exact h⟩
theorem steps_in {G : NetG} {N : Nat} {f : Nat → Int} {L : List Int} (hG : G.Fine N) (hL : G.Steps f L) : G.arcs.In N L := fun s hs => by
  have h1 := hG _ (eNo_lt ((hL s).1 hs).1)
  simp only [NetG.arcs]
  split <;> exact ⟨by omega, by omega⟩
/-! the worth of prices -/
theorem sum_one (p : Nat → Int) {a N : Nat} (h : a < N) : sumN (fun v => p v * one a v) N = p a := by
  rw [show (fun v => p v * one a v) = (fun v => if v = a then p v else 0) from funext fun v => by unfold one; by_cases e : v = a; rw [if_pos e, if_pos e.symm]; omega; rw [if_neg e, if_neg (fun h => e h.symm)]; omega]
  rw [sumN_pick, if_pos h]
theorem sum_out {G : NetG} {N : Nat} (hG : G.Fine N) (p f : Nat → Int) : sumN (fun v => p v * G.out f v) N = sumN (fun k => f k * (p (G.fr k) - p (G.to k))) G.K := by
  rw [show (fun v => p v * G.out f v) = (fun v => sumN (fun k => f k * (p v * one (G.fr k) v - p v * one (G.to k) v)) G.K) from funext fun v => by
    unfold NetG.out
    rw [← sumN_mul]
    exact sumN_congr fun k _ => by grind]
  rw [sumN_swap]
  refine sumN_congr fun k hk => ?_
  rw [sumN_mul]
  congr 1
  rw [show (fun v => p v * one (G.fr k) v - p v * one (G.to k) v) = (fun v => p v * one (G.fr k) v + (-1) * (p v * one (G.to k) v)) from funext fun v => by omega]
  rw [sumN_add, sumN_mul, sum_one p (hG k hk).1, sum_one p (hG k hk).2]
  omega
/-- prices for all steps of a flow: it is a cheapest one -/
theorem cheapest_of {G : NetG} {N : Nat} (hG : G.Fine N) {f g p : Nat → Int} {L : List Int} (hL : G.Steps f L) (hp : G.arcs.Pot L p) (hf : G.Fs f) (hg : G.Fs g) (hout : ∀ v, v < N → G.out f v = G.out g v) :
    G.cost f ≤ G.cost g ∧ (G.cost g ≤ G.cost f → ∀ k, k < G.K → (G.ln k + p (G.fr k) - p (G.to k)) * (g k - f k) = 0) := by
  have key : sumN (fun k => (G.ln k + p (G.fr k) - p (G.to k)) * (g k - f k)) G.K = G.cost g - G.cost f := by
    have h1 := sum_out hG p f
    have h2 := sum_out hG p g
    rw [sumN_congr (g := fun v => p v * G.out g v) (fun v hv => by rw [hout v hv]), h2] at h1
    have h3 : sumN (fun k => (G.ln k + p (G.fr k) - p (G.to k)) * (g k - f k)) G.K = sumN (fun k => (G.ln k * g k + (-1) * (G.ln k * f k)) + (g k * (p (G.fr k) - p (G.to k)) + (-1) * (f k * (p (G.fr k) - p (G.to k))))) G.K := sumN_congr fun k _ => by grind
    rw [h3, sumN_add, sumN_add, sumN_add, sumN_mul, sumN_mul, h1]
    unfold NetG.cost
    omega
  have pos : ∀ k, k < G.K → 0 ≤ (G.ln k + p (G.fr k) - p (G.to k)) * (g k - f k) := fun k hk => by
    have f1 := hf k hk
    have g1 := hg k hk
    by_cases h1 : f k < g k
    · have h2 := hp _ ((hL _).2 (ok_pos hk (show f k < G.wd k by omega)))
      simp only [NetG.arcs, eNo_pos] at h2
      rw [if_neg (by omega), if_neg (by omega), if_neg (by omega)] at h2
      exact Int.mul_nonneg (by omega) (by omega)
    · by_cases h3 : g k < f k
      · have h2 := hp _ ((hL _).2 (ok_neg hk (show 0 < f k by omega)))
        simp only [NetG.arcs, eNo_neg] at h2
        rw [if_pos (by omega), if_pos (by omega), if_pos (by omega)] at h2
        have := Int.mul_nonneg (show 0 ≤ -(G.ln k + p (G.fr k) - p (G.to k)) by omega) (show 0 ≤ -(g k - f k) by omega)
        rwa [Int.neg_mul_neg] at this
      · rw [show g k - f k = 0 by omega]; omega
  refine ⟨?_, fun hle => sumN_all0 pos (by omega)⟩
  have := sumN_nonneg pos
  omega
/-- the prices of one cheapest flow prove each other one -/
theorem pot_all {G : NetG} {N : Nat} (hG : G.Fine N) {f g p : Nat → Int} {L M : List Int} (hL : G.Steps f L) (hM : G.Steps g M) (hp : G.arcs.Pot L p) (hf : G.Fs f) (hg : G.Fs g) (hout : ∀ v, v < N → G.out f v = G.out g v) (hle : G.cost g ≤ G.cost f) : G.arcs.Pot M p := by
  intro s hs
  obtain ⟨h1, h2⟩ := (hM s).1 hs
  have hk := eNo_lt h1
  have h3 := (cheapest_of hG hL hp hf hg hout).2 hle (eNo s) hk
  have f1 := hf _ hk
  have g1 := hg _ hk
  have hor := Int.mul_eq_zero.1 h3
  have a1 : f (eNo s) < G.wd (eNo s) → 0 ≤ G.ln (eNo s) + p (G.fr (eNo s)) - p (G.to (eNo s)) := fun h => by
    have h2 := hp _ ((hL _).2 (ok_pos hk h))
    simp only [NetG.arcs, eNo_pos] at h2
    rw [if_neg (by omega), if_neg (by omega), if_neg (by omega)] at h2
    omega
  have a2 : 0 < f (eNo s) → G.ln (eNo s) + p (G.fr (eNo s)) - p (G.to (eNo s)) ≤ 0 := fun h => by
    have h2 := hp _ ((hL _).2 (ok_neg hk h))
    simp only [NetG.arcs, eNo_neg] at h2
    rw [if_pos (by omega), if_pos (by omega), if_pos (by omega)] at h2
    omega
  simp only [NetG.arcs]
  split at h2
  · rename_i hneg
    rw [if_pos hneg, if_pos hneg, if_pos hneg]
    rcases hor with h | h
    · omega
    · have := a2 (by omega); omega
  · rename_i hneg
    rw [if_neg hneg, if_neg hneg, if_neg hneg]
    rcases hor with h | h
    · omega
    · have := a1 (by omega); omega
/-! a flow turned along steps -/
def turnG (f : Nat → Int) (s : Int) : Nat → Int := upd f (eNo s) (f (eNo s) + sg s)
theorem sumN_upd (w f : Nat → Int) (a : Nat) (d : Int) : ∀ n, sumN (fun k => w k * upd f a (f a + d) k) n = sumN (fun k => w k * f k) n + if a < n then w a * d else 0
  | 0 => by simp [sumN]
  | n + 1 => by
    simp only [sumN]
    rw [sumN_upd]
    by_cases h : n = a
    · subst h
      rw [upd_same, if_neg (by omega), if_pos (by omega), Int.mul_add]; omega
    · rw [upd_ne h]
      by_cases h2 : a < n
      · rw [if_pos h2, if_pos (by omega)]; omega
      · rw [if_neg h2, if_neg (by omega)]; omega
theorem turnG_cost {G : NetG} (f : Nat → Int) {s : Int} (h : G.IsStep s) : G.cost (turnG f s) = G.cost f + G.arcs.ln s := by
  unfold NetG.cost turnG
  rw [sumN_upd, if_pos (eNo_lt h)]
  simp only [NetG.arcs, sg]
  split <;> omega
theorem turnG_out {G : NetG} (f : Nat → Int) {s : Int} (h : G.IsStep s) (v : Nat) : G.out (turnG f s) v = G.out f v + one (G.arcs.fr s) v - one (G.arcs.to s) v := by
  unfold NetG.out turnG
  rw [show (fun k => upd f (eNo s) (f (eNo s) + sg s) k * (one (G.fr k) v - one (G.to k) v)) = (fun k => (one (G.fr k) v - one (G.to k) v) * upd f (eNo s) (f (eNo s) + sg s) k) from funext fun k => Int.mul_comm _ _]
  rw [sumN_upd, if_pos (eNo_lt h), sumN_congr (f := fun k => (one (G.fr k) v - one (G.to k) v) * f k) (g := fun k => f k * (one (G.fr k) v - one (G.to k) v)) (fun k _ => Int.mul_comm _ _)]
  simp only [NetG.arcs, sg]
  split <;> omega
def turnsG (f : Nat → Int) (l : List Int) : Nat → Int := l.foldl turnG f
theorem turnsG_cost {G : NetG} : ∀ (l : List Int) (f : Nat → Int), (∀ s ∈ l, G.IsStep s) → G.cost (turnsG f l) = G.cost f + sumLn G.arcs l
  | [], f, _ => by simp [turnsG, sumLn]
  | s :: l, f, h => by
    have := turnsG_cost l (turnG f s) (fun t ht => h t (List.mem_cons_of_mem _ ht))
    unfold turnsG at this ⊢
    rw [List.foldl_cons, this, turnG_cost f (h s List.mem_cons_self)]
    simp only [sumLn]; omega
/-- what the ends of steps add up to -/
def sumEnd (G : NetG) (v : Nat) : List Int → Int
  | [] => 0
  | s :: l => one (G.arcs.fr s) v - one (G.arcs.to s) v + sumEnd G v l
theorem turnsG_out {G : NetG} (v : Nat) : ∀ (l : List Int) (f : Nat → Int), (∀ s ∈ l, G.IsStep s) → G.out (turnsG f l) v = G.out f v + sumEnd G v l
  | [], f, _ => by simp [turnsG, sumEnd]
  | s :: l, f, h => by
    have := turnsG_out v l (turnG f s) (fun t ht => h t (List.mem_cons_of_mem _ ht))
    unfold turnsG at this ⊢
    rw [List.foldl_cons, this, turnG_out f (h s List.mem_cons_self)]
    simp only [sumEnd]; omega
theorem turnsG_other : ∀ (l : List Int) (f : Nat → Int) (k : Nat), k ∉ l.map eNo → turnsG f l k = f k
  | [], f, k, _ => rfl
  | s :: l, f, k, h => by
    rw [List.map_cons, List.mem_cons, not_or] at h
    have := turnsG_other l (turnG f s) k h.2
    unfold turnsG at this ⊢
    rw [List.foldl_cons, this]
    unfold turnG; exact upd_ne h.1
theorem turnsG_at : ∀ (l : List Int) (f : Nat → Int), (l.map eNo).Nodup → ∀ s ∈ l, turnsG f l (eNo s) = f (eNo s) + sg s
  | [], f, _, s, hs => by simp at hs
  | t :: l, f, h, s, hs => by
    rw [List.map_cons, List.nodup_cons] at h
    rcases List.mem_cons.1 hs with rfl | hs
    · have := turnsG_other l (turnG f s) (eNo s) h.1
      unfold turnsG at this ⊢
      rw [List.foldl_cons, this]
      unfold turnG; rw [upd_same]
    · have hne : eNo s ≠ eNo t := fun e => h.1 (by rw [← e]; exact List.mem_map_of_mem hs)
      have := turnsG_at l (turnG f t) h.2 s hs
      unfold turnsG at this ⊢
      rw [List.foldl_cons, this]
      unfold turnG; rw [upd_ne hne]
theorem turnsG_fs {G : NetG} {f : Nat → Int} {l : List Int} (hf : G.Fs f) (hl : ∀ s ∈ l, G.Ok f s) (hn : (l.map eNo).Nodup) : G.Fs (turnsG f l) := by
  intro k hk
  by_cases hm : k ∈ l.map eNo
  · obtain ⟨s, hs, rfl⟩ := List.mem_map.1 hm
    rw [turnsG_at l f hn s hs]
    have h1 := (hl s hs).2
    have h2 := hf _ hk
    unfold sg
    split at h1
    · rename_i h3; rw [if_pos h3]; omega
    · rename_i h3; rw [if_neg h3]; omega
  · rw [turnsG_other l f k hm]; exact hf k hk
/-- prices that are tight along the steps serve the turned flow -/
theorem turnsG_pot {G : NetG} {f p : Nat → Int} {l L M : List Int} (hL : G.Steps f L) (hM : G.Steps (turnsG f l) M) (hp : G.arcs.Pot L p) (hl : ∀ s ∈ l, G.Ok f s) (ht : ∀ s ∈ l, p (G.arcs.to s) = G.arcs.ln s + p (G.arcs.fr s)) : G.arcs.Pot M p := by
  intro s hs
  obtain ⟨h1, h2⟩ := (hM s).1 hs
  by_cases hm : eNo s ∈ l.map eNo
  · obtain ⟨t, htl, e⟩ := List.mem_map.1 hm
    have h3 := ht t htl
    rcases eNo_eq (hl t htl).1.1 h1.1 e with rfl | rfl
    · omega
    · have e2 : eNo (-s) = eNo s := e
      have hne : s ≠ 0 := fun h => by have := h1.1; rw [h] at this; simp at this
      simp only [NetG.arcs, e2] at h3 ⊢
      by_cases hneg : s < 0
      · rw [if_neg (by omega), if_neg (by omega), if_neg (by omega)] at h3
        rw [if_pos hneg, if_pos hneg, if_pos hneg]; omega
      · rw [if_pos (by omega), if_pos (by omega), if_pos (by omega)] at h3
        rw [if_neg hneg, if_neg hneg, if_neg hneg]; omega
  · rw [turnsG_other l f _ hm] at h2
    exact hp s ((hL s).2 ⟨h1, h2⟩)
/-- the steps of a chain go along different roads -/
theorem chn_roads {G : NetG} {b : Nat → Option Int} {N : Nat} {f : Nat → Int} {L : List Int} (hL : G.Steps f L) (hb : ∀ v, v < N → ∀ s, b v = some s → s ∈ L ∧ G.arcs.to s = v ∧ G.arcs.fr s < N) {v : Nat} {l : List Int} {r : Nat} (hc : Chn G.arcs b v l r) : v < N → (l.map eNo).Nodup := by
  induction hc with
  | nil _ => intro _; simp
  | @cons v s l r h1 h2 ih =>
    intro hv
    obtain ⟨e1, e2, e3⟩ := hb v hv s h1
    rw [List.map_cons, List.nodup_cons]
    refine ⟨fun hm => ?_, ih e3⟩
    have hl : ∀ t ∈ l, t ∈ L := h2.arcs (P := fun v => v < N) (Q := fun t => t ∈ L) e3 (fun v t hv ht => ⟨(hb v hv t ht).2.2, (hb v hv t ht).1⟩)
    obtain ⟨t, ht, e⟩ := List.mem_map.1 hm
    have hs1 := ((hL s).1 e1).1
    have nd : (v :: nodesOf G.arcs (s :: l)).Nodup := Chn.nodup (.cons h1 h2)
    have nd2 : (G.arcs.fr s :: nodesOf G.arcs l).Nodup := h2.nodup
    have hft : G.arcs.fr t ∈ nodesOf G.arcs l := List.mem_map_of_mem ht
    rcases eNo_eq ((hL t).1 (hl t ht)).1.1 hs1.1 e with rfl | rfl
    · exact (List.nodup_cons.1 nd2).1 hft
    · have e4 : G.arcs.fr (-s) = G.arcs.to s := by
        have e5 : eNo (-s) = eNo s := e
        have := hs1.1
        simp only [NetG.arcs, e5]
        split <;> split <;> first | rfl | omega
      rw [e4, e2] at hft
      refine (List.nodup_cons.1 nd).1 ?_
      simp only [nodesOf, List.map_cons]
      exact List.mem_cons_of_mem _ hft
theorem chn_end {G : NetG} {b : Nat → Option Int} {N : Nat} (hb : ∀ v, v < N → ∀ s, b v = some s → G.arcs.to s = v ∧ G.arcs.fr s < N) {v : Nat} {l : List Int} {r : Nat} (hc : Chn G.arcs b v l r) (w : Nat) : v < N → sumEnd G w l = one r w - one v w := by
  induction hc with
  | nil _ => intro _; simp only [sumEnd]; omega
  | @cons v s l r h1 h2 ih =>
    intro hv
    obtain ⟨e1, e2⟩ := hb v hv s h1
    simp only [sumEnd]
    rw [ih e2, e1]; omega
/-! barriers -/
def sumS (x : Nat → Int) (S : Nat → Bool) (N : Nat) : Int := sumN (fun v => if S v then x v else 0) N
def NetG.cut (G : NetG) (S : Nat → Bool) : Int := sumN (fun k => if S (G.fr k) && !S (G.to k) then G.wd k else 0) G.K
theorem sumS_out {G : NetG} {N : Nat} (hG : G.Fine N) (f : Nat → Int) (S : Nat → Bool) : sumS (G.out f) S N = sumN (fun k => f k * ((if S (G.fr k) then 1 else 0) - (if S (G.to k) then 1 else 0))) G.K := by
  have := sum_out hG (fun v => if S v then 1 else 0) f
  rw [← this]
  unfold sumS
  exact sumN_congr fun v _ => by split <;> omega
theorem out_le_cut {G : NetG} {N : Nat} (hG : G.Fine N) {f : Nat → Int} (hf : G.Fs f) (S : Nat → Bool) : sumS (G.out f) S N ≤ G.cut S := by
  rw [sumS_out hG]
  refine sumN_le fun k hk => ?_
  have h1 := hf k hk
  cases S (G.fr k) <;> cases S (G.to k) <;> simp <;> omega
theorem out_eq_cut {G : NetG} {N : Nat} (hG : G.Fine N) {f : Nat → Int} {L : List Int} (hf : G.Fs f) (hL : G.Steps f L) (S : Nat → Bool) (hS : ∀ s ∈ L, S (G.arcs.fr s) = true → S (G.arcs.to s) = true) : sumS (G.out f) S N = G.cut S := by
  rw [sumS_out hG]
  refine sumN_congr fun k hk => ?_
  have h1 := hf k hk
  have h2 : S (G.fr k) = true → S (G.to k) = false → f k = G.wd k := fun a b => Classical.byContradiction fun hn => by
    have := hS _ ((hL _).2 (ok_pos hk (show f k < G.wd k by omega)))
    simp only [NetG.arcs, eNo_pos] at this
    rw [if_neg (by omega), if_neg (by omega)] at this
    rw [this a] at b; simp at b
  have h3 : S (G.to k) = true → S (G.fr k) = false → f k = 0 := fun a b => Classical.byContradiction fun hn => by
    have := hS _ ((hL _).2 (ok_neg hk (show 0 < f k by omega)))
    simp only [NetG.arcs, eNo_neg] at this
    rw [if_pos (by omega), if_pos (by omega)] at this
    rw [this a] at b; simp at b
  cases e1 : S (G.fr k) <;> cases e2 : S (G.to k) <;> simp [e1, e2] at h2 h3 ⊢ <;> omega
end Go.Proofs.Ytodlbgncdggimaa
/- Plain words of flows: one unit more along a chain; what is left when no chain leads on. No program in sight. -/
namespace Go.Proofs.Ytodlbgncdggimaa

/-- a flow with prices, and what it leaves of an excess -/
structure ShipInv (G : NetG) (N : Nat) (x f l : Nat → Int) : Prop where
  fs : G.Fs f
  out : ∀ v, v < N → G.out f v + l v = x v
  pot : ∃ p : Nat → Int, ∀ s, G.Ok f s → p (G.arcs.to s) ≤ G.arcs.ln s + p (G.arcs.fr s)
theorem pot_of {G : NetG} {f p : Nat → Int} {L : List Int} (hL : G.Steps f L) (h : ∀ s, G.Ok f s → p (G.arcs.to s) ≤ G.arcs.ln s + p (G.arcs.fr s)) : G.arcs.Pot L p := fun s hs => h s ((hL s).1 hs)
theorem of_pot {G : NetG} {f p : Nat → Int} {L : List Int} (hL : G.Steps f L) (h : G.arcs.Pot L p) : ∀ s, G.Ok f s → p (G.arcs.to s) ≤ G.arcs.ln s + p (G.arcs.fr s) := fun s hs => h s ((hL s).2 hs)
theorem ship_zero {G : NetG} {N : Nat} (x : Nat → Int) (hw : ∀ k, k < G.K → 0 ≤ G.wd k) (hl : ∀ k, k < G.K → 0 ≤ G.ln k) : ShipInv G N x (fun _ => 0) x := by
  refine ⟨fun k hk => ⟨Int.le_refl _, hw k hk⟩, fun v _ => ?_, fun _ => 0, fun s hs => ?_⟩
  · have : G.out (fun _ => 0) v = 0 := by
      unfold NetG.out
      rw [sumN_congr (g := fun _ => 0) (fun k _ => by simp)]
      exact sumN_zero _
    omega
  · have h1 := hl _ (eNo_lt hs.1)
    have h2 := hs.2
    simp only [NetG.arcs]
    split at h2
    · exact absurd h2 (by simp)
    · rename_i h; rw [if_neg h]; omega
/-- labels stay far below far -/
theorem LEnd.near {G : NetG} {far : Int} {N : Nat} {L : List Int} {p first at_ : Nat → Int} {b : Nat → Option Int} (h : LEnd G.arcs far N L p first at_ b) (hL : G.arcs.In N L) {K : Int} (hK : 0 ≤ K) (hl : ∀ s ∈ L, -K ≤ G.arcs.ln s ∧ G.arcs.ln s ≤ K) (hfirst : ∀ v, v < N → first v = far ∨ first v = 0) (hfar : N * K < far) :
    (∀ v, v < N → at_ v < far → -((N - 1) * K) ≤ at_ v ∧ at_ v ≤ (N - 1) * K) ∧ ∀ s ∈ L, at_ (G.arcs.fr s) < far → at_ (G.arcs.to s) < far := by
  have h1 : ∀ v, v < N → at_ v < far → -((N - 1) * K) ≤ at_ v ∧ at_ v ≤ (N - 1) * K := fun v hv hf => by
    obtain ⟨r, r1, r2, r3, r4, r5, r6⟩ := h.bd hL hK hl hv
    have := r4 hf
    rcases hfirst r r1 with e | e
    · omega
    · rw [e] at r5 r6; omega
  refine ⟨h1, fun s hs hf => ?_⟩
  have h2 := h1 _ (hL s hs).1 hf
  have h3 := h.sat s hs hf
  have h4 := hl s hs
  have h5 : ((N : Int) - 1) * K = N * K - K := by rw [Int.sub_mul]; omega
  omega
theorem ship_more {G : NetG} {far : Int} {N : Nat} (hG : G.Fine N) {x f l : Nat → Int} (h : ShipInv G N x f l) {L : List Int} (hL : G.Steps f L) {p first at_ : Nat → Int} {b : Nat → Option Int} (hp : G.arcs.Pot L p) (hE : LEnd G.arcs far N L p first at_ b)
    {K : Int} (hK : 0 ≤ K) (hl : ∀ s ∈ L, -K ≤ G.arcs.ln s ∧ G.arcs.ln s ≤ K) (hfar : N * K < far) (hfirst : ∀ v, v < N → first v = far ∨ (first v = 0 ∧ 0 < l v))
    {best : Nat} (hb : best < N) (hb2 : at_ best < far) : ∃ c r, Chn G.arcs b best c r ∧ r < N ∧ 0 < l r ∧ c.length + 1 ≤ N ∧ ShipInv G N x (turnsG f c) (fun v => l v + one best v - one r v) := by
  have hin := steps_in hG hL
  obtain ⟨c, r, hc⟩ := hE.ends best hb
  obtain ⟨h1, h2, h3, h4, h5⟩ := hE.tele hin hb hc
  obtain ⟨_, hn2⟩ := hE.near hin hK hl (fun v hv => (hfirst v hv).imp id (fun h => h.1)) hfar
  have hr : 0 < l r := by
    have := h5 hb2
    rcases hfirst r h2 with e | e
    · omega
    · exact e.2
  have hedge : ∀ v, v < N → ∀ s, b v = some s → s ∈ L ∧ G.arcs.to s = v ∧ G.arcs.fr s < N := fun v hv s hs => by
    obtain ⟨e1, e2, _⟩ := hE.edge v hv s hs
    exact ⟨e1, e2, (hin s e1).1⟩
  have hok : ∀ s ∈ c, G.Ok f s := fun s hs => (hL s).1 (h3 s hs)
  have hnd := chn_roads hL hedge hc hb
  have hfs := turnsG_fs h.fs hok hnd
  refine ⟨c, r, hc, h2, hr, hc.short hin hb h3, hfs, fun v hv => ?_, ?_⟩
  · rw [turnsG_out v c f (fun s hs => (hok s hs).1), chn_end (fun v hv s hs => (hedge v hv s hs).2) hc v hb]
    have := h.out v hv
    omega
  · refine ⟨capP far p at_ (at_ best - p best), fun s hs => ?_⟩
    have hpot := capP_pot (c := at_ best - p best) hE.sat hp hn2
    have htight := capP_tight hE hin hp hb hb2 hc
    by_cases hm : eNo s ∈ c.map eNo
    · obtain ⟨t, htl, e⟩ := List.mem_map.1 hm
      have h3 := htight t htl
      rcases eNo_eq (hok t htl).1.1 hs.1.1 e with rfl | rfl
      · omega
      · have e2 : eNo (-s) = eNo s := e
        have := hs.1.1
        simp only [NetG.arcs, e2] at h3 ⊢
        by_cases hneg : s < 0
        · rw [if_neg (by omega), if_neg (by omega), if_neg (by omega)] at h3
          rw [if_pos hneg, if_pos hneg, if_pos hneg]; omega
        · rw [if_pos (by omega), if_pos (by omega), if_pos (by omega)] at h3
          rw [if_neg hneg, if_neg hneg, if_neg hneg]; omega
    · obtain ⟨q1, q2⟩ := hs
      rw [turnsG_other c f _ hm] at q2
      exact hpot s ((hL s).2 ⟨q1, q2⟩)
def NetG.Dam (G : NetG) (N : Nat) (x : Nat → Int) (S : Nat → Bool) : Prop := G.cut S < sumS x S N
theorem dam_none {G : NetG} {N : Nat} (hG : G.Fine N) {x : Nat → Int} {S : Nat → Bool} (h : G.Dam N x S) {g : Nat → Int} (hg : G.Fs g) : ¬ ∀ v, v < N → G.out g v = x v := fun ho => by
  have h1 := out_le_cut hG hg S
  have h2 : sumS (G.out g) S N = sumS x S N := sumN_congr fun v hv => by rw [ho v hv]
  unfold NetG.Dam at h
  omega
theorem sumS_add (f g : Nat → Int) (S : Nat → Bool) (N : Nat) : sumS (fun v => f v + g v) S N = sumS f S N + sumS g S N := by
  unfold sumS
  rw [← sumN_add]
  exact sumN_congr fun v _ => by cases S v <;> simp
theorem sumN_term {f : Nat → Int} {n : Nat} (h : ∀ i, i < n → 0 ≤ f i) {a : Nat} (ha : a < n) : f a ≤ sumN f n := by
  have h1 := sumN_pick f a n
  rw [if_pos ha] at h1
  rw [← h1]
  exact sumN_le fun i hi => by have := h i hi; split <;> omega
/-- no chain leads on: what is reached is a barrier -/
theorem ship_stuck {G : NetG} {far : Int} {N : Nat} (hG : G.Fine N) {x f l : Nat → Int} (h : ShipInv G N x f l) {L : List Int} (hL : G.Steps f L) {p first at_ : Nat → Int} {b : Nat → Option Int} (hE : LEnd G.arcs far N L p first at_ b)
    {K : Int} (hK : 0 ≤ K) (hl : ∀ s ∈ L, -K ≤ G.arcs.ln s ∧ G.arcs.ln s ≤ K) (hfar : N * K < far) (hfirst : ∀ v, v < N → first v = far ∨ (first v = 0 ∧ 0 < l v))
    (hno : ∀ v, v < N → l v < 0 → ¬ at_ v < far) {a : Nat} (ha : a < N) (ha2 : first a = 0) : G.Dam N x (fun v => decide (at_ v < far)) := by
  have hin := steps_in hG hL
  obtain ⟨_, hn2⟩ := hE.near hin hK hl (fun v hv => (hfirst v hv).imp id (fun h => h.1)) hfar
  have hfar0 : 0 < far := by have : 0 ≤ (N : Int) * K := Int.mul_nonneg (by omega) hK; omega
  have h1 := out_eq_cut hG h.fs hL (fun v => decide (at_ v < far)) (fun s hs => by simp only [decide_eq_true_eq]; exact hn2 s hs)
  have h2 : sumS x (fun v => decide (at_ v < far)) N = sumS (G.out f) (fun v => decide (at_ v < far)) N + sumS l (fun v => decide (at_ v < far)) N := by
    rw [← sumS_add]
    exact sumN_congr fun v hv => by simp only [h.out v hv]
  have h3 : l a ≤ sumS l (fun v => decide (at_ v < far)) N := by
    have hle := hE.le a ha
    have := sumN_term (f := fun v => if decide (at_ v < far) then l v else 0) (n := N) (fun v hv => by
      by_cases hc : at_ v < far
      · have := hno v hv
        rw [if_pos (by simpa using hc)]
        omega
      · rw [if_neg (by simpa using hc)]; omega) ha
    rw [if_pos (by simp; omega)] at this
    exact this
  have h4 : 0 < l a := by
    rcases hfirst a ha with e | e
    · omega
    · exact e.2
  unfold NetG.Dam
  omega
/-- how much is too much -/
def over (l : Nat → Int) (N : Nat) : Int := sumN (fun v => max (l v) 0) N
theorem over_nonneg (l : Nat → Int) (N : Nat) : 0 ≤ over l N := sumN_nonneg fun v _ => by omega
theorem over_step {l : Nat → Int} {N best r : Nat} (hb : l best < 0) (hr : 0 < l r) (hrN : r < N) : over (fun v => l v + one best v - one r v) N = over l N - 1 := by
  unfold over
  have h1 := sum_one (fun _ => 1) hrN
  have key : ∀ v, max (l v + one best v - one r v) 0 = max (l v) 0 + (-1) * (1 * one r v) := fun v => by
    unfold one
    by_cases e1 : best = v
    · by_cases e2 : r = v
      · subst e1; subst e2; omega
      · subst e1; rw [if_pos rfl, if_neg e2]; omega
    · by_cases e2 : r = v
      · subst e2; rw [if_neg e1, if_pos rfl]; omega
      · rw [if_neg e1, if_neg e2]; omega
  rw [sumN_congr (g := fun v => max (l v) 0 + (-1) * (1 * one r v)) (fun v _ => key v), sumN_add, sumN_mul, h1]
  omega
theorem over_zero {l : Nat → Int} {N : Nat} (h : over l N = 0) : ∀ v, v < N → l v ≤ 0 := fun v hv => by
  have := sumN_all0 (f := fun v => max (l v) 0) (n := N) (fun v _ => by omega) (by unfold over at h; omega) v hv
  omega
/-- nothing too much, and no too little: all is moved -/
theorem left_zero {l : Nat → Int} {N : Nat} (h : ∀ v, v < N → l v ≤ 0) (hs : sumN l N = 0) : ∀ v, v < N → l v = 0 := fun v hv => by
  have := sumN_all0 (f := fun v => (-1) * l v) (n := N) (fun v hv => by have := h v hv; omega) (by rw [sumN_mul]; omega) v hv
  omega
theorem out_sum {G : NetG} {N : Nat} (hG : G.Fine N) (f : Nat → Int) : sumN (G.out f) N = 0 := by
  have := sum_out hG (fun _ => 1) f
  rw [sumN_congr (f := fun v => 1 * G.out f v) (g := G.out f) (fun v _ => by omega), sumN_congr (f := fun k => f k * (1 - 1)) (g := fun _ => 0) (fun k _ => by omega), sumN_zero] at this
  exact this
end Go.Proofs.Ytodlbgncdggimaa
/- Plain words of labels along arcs: a last round that still changes something has gone round a way that is shorter than nothing. No program in sight. -/
namespace Go.Proofs.Ytodlbgncdggimaa
section
variable {α : Type} {A : Arcs α} {far : Int}
structure NInv (A : Arcs α) (far : Int) (N : Nat) (L : List α) (r clk : Nat) (st : Lb α) (u t : Nat → Nat) : Prop where
  edge : ∀ v, v < N → ∀ s, st.by_ v = some s → s ∈ L ∧ A.to s = v ∧ st.at_ (A.fr s) + A.ln s + (if u v < u (A.fr s) then 1 else 0) ≤ st.at_ v ∧ t v ≤ t (A.fr s) + 1
  some_ : ∀ v, v < N → 1 ≤ t v → ∃ s, st.by_ v = some s
  tle : ∀ v, v < N → t v ≤ r
  uniq : ∀ v w, v < N → w < N → st.by_ v ≠ none → st.by_ w ≠ none → u v = u w → v = w
  ult : ∀ v, v < N → u v ≤ clk
  old : ∀ s ∈ L, t (A.fr s) + 1 < r → st.at_ (A.to s) ≤ st.at_ (A.fr s) + A.ln s
  near : ∀ v, v < N → st.at_ v < far
theorem ninv_start {N : Nat} {L : List α} {first : Nat → Int} (h : ∀ v, v < N → first v < far) (k : Int) : NInv A far N L 1 0 ⟨first, fun _ => none, k⟩ (fun _ => 0) (fun _ => 0) :=
  ⟨fun v _ s h => by simp at h, fun v _ h => by simp at h, fun _ _ => by omega, fun v w _ _ h => by simp at h, fun _ _ => Nat.le_refl _, fun s _ h => by simp at h, h⟩
theorem ninv_relax {N : Nat} {L : List α} (hL : A.In N L) (hne : ∀ s ∈ L, A.fr s ≠ A.to s) {r clk : Nat} {st : Lb α} {u t : Nat → Nat} (h : NInv A far N L r clk st u t) {s : α} (hs : s ∈ L) (hc : A.Cond far st s) :
    NInv A far N L r (clk + 1) (A.put st s) (upd u (A.to s) (clk + 1)) (upd t (A.to s) r) := by
  have c1 := hc.1
  have c2 := hc.2
  have hs1 := hL s hs
  have hs2 := hne s hs
  have hu := h.ult _ hs1.1
  refine ⟨fun v hv q hq => ?_, fun v hv hq => ?_, fun v hv => ?_, fun v w hv hw h1 h2 h3 => ?_, fun v hv => ?_, fun q hq h1 => ?_, fun v hv => ?_⟩
  · have hq : upd st.by_ (A.to s) (some s) v = some q := hq
    show q ∈ L ∧ A.to q = v ∧ upd st.at_ (A.to s) (st.at_ (A.fr s) + A.ln s) (A.fr q) + A.ln q + (if upd u (A.to s) (clk + 1) v < upd u (A.to s) (clk + 1) (A.fr q) then 1 else 0) ≤ upd st.at_ (A.to s) (st.at_ (A.fr s) + A.ln s) v ∧ upd t (A.to s) r v ≤ upd t (A.to s) r (A.fr q) + 1
    by_cases e : v = A.to s
    · subst e
      rw [upd_same] at hq
      cases hq
      rw [upd_same, upd_same, upd_same, upd_ne hs2, upd_ne hs2, upd_ne hs2, if_neg (by omega)]
      refine ⟨hs, rfl, by omega, ?_⟩
      refine Classical.byContradiction fun hn => ?_
      have := h.old s hs (by omega)
      omega
    · rw [upd_ne e] at hq
      obtain ⟨e1, e2, e3, e4⟩ := h.edge v hv q hq
      have hvu := h.ult v hv
      rw [upd_ne e, upd_ne e, upd_ne e]
      by_cases e5 : A.fr q = A.to s
      · have e6 := h.tle _ hs1.2
        rw [e5] at e3 e4 ⊢
        rw [upd_same, upd_same, upd_same, if_pos (by omega)]
        refine ⟨e1, e2, ?_, by omega⟩
        split at e3 <;> omega
      · rw [upd_ne e5, upd_ne e5, upd_ne e5]
        exact ⟨e1, e2, e3, e4⟩
  · have hq : 1 ≤ upd t (A.to s) r v := hq
    show ∃ q, upd st.by_ (A.to s) (some s) v = some q
    by_cases e : v = A.to s
    · subst e; exact ⟨s, by rw [upd_same]⟩
    · rw [upd_ne e] at hq ⊢; exact h.some_ v hv hq
  · by_cases e : v = A.to s
    · subst e; rw [upd_same]; exact Nat.le_refl _
    · rw [upd_ne e]; exact h.tle v hv
  · have h1 : upd st.by_ (A.to s) (some s) v ≠ none := h1
    have h2 : upd st.by_ (A.to s) (some s) w ≠ none := h2
    have u1 := h.ult v hv
    have u2 := h.ult w hw
    by_cases e1 : v = A.to s
    · by_cases e2 : w = A.to s
      · rw [e1, e2]
      · rw [e1, upd_same, upd_ne e2] at h3; omega
    · by_cases e2 : w = A.to s
      · rw [e2, upd_same, upd_ne e1] at h3; omega
      · rw [upd_ne e1] at h1 h3
        rw [upd_ne e2] at h2 h3
        exact h.uniq v w hv hw h1 h2 h3
  · by_cases e : v = A.to s
    · subst e; rw [upd_same]; exact Nat.le_refl _
    · rw [upd_ne e]; have := h.ult v hv; omega
  · show upd st.at_ _ _ _ ≤ upd st.at_ _ _ _ + _
    by_cases e : A.fr q = A.to s
    · rw [e, upd_same] at h1; omega
    · rw [upd_ne e] at h1 ⊢
      have := h.old q hq h1
      by_cases e2 : A.to q = A.to s
      · rw [e2] at this ⊢; rw [upd_same]; omega
      · rw [upd_ne e2]; exact this
  · show upd st.at_ _ _ v < far
    have := h.near v hv
    by_cases e : v = A.to s
    · subst e; rw [upd_same]; omega
    · rw [upd_ne e]; exact this
theorem ninv_fold {N : Nat} {L : List α} (hL : A.In N L) (hne : ∀ s ∈ L, A.fr s ≠ A.to s) {r : Nat} : ∀ (l done : List α), (∀ s ∈ l, s ∈ L) → ∀ (clk : Nat) (st : Lb α) (u t : Nat → Nat), NInv A far N L r clk st u t → (∀ s ∈ done, t (A.fr s) < r → st.at_ (A.to s) ≤ st.at_ (A.fr s) + A.ln s) → (0 ≤ st.last → ∃ v, v < N ∧ st.last = v ∧ t v = r) →
    ∃ clk' u' t', NInv A far N L r clk' (l.foldl (A.relax far) st) u' t' ∧ (∀ s, s ∈ done ∨ s ∈ l → t' (A.fr s) < r → (l.foldl (A.relax far) st).at_ (A.to s) ≤ (l.foldl (A.relax far) st).at_ (A.fr s) + A.ln s) ∧ (0 ≤ (l.foldl (A.relax far) st).last → ∃ v, v < N ∧ (l.foldl (A.relax far) st).last = v ∧ t' v = r)
  | [], done, _, clk, st, u, t, h, hd, hl => ⟨clk, u, t, h, fun s hs => hd s (by rcases hs with hs | hs; exact hs; simp at hs), hl⟩
  | s :: l, done, hl, clk, st, u, t, h, hd, hla => by
    have hs := hl s List.mem_cons_self
    rw [List.foldl_cons]
    have key : ∃ clk' u' t', NInv A far N L r clk' (A.relax far st s) u' t' ∧ (∀ q ∈ s :: done, t' (A.fr q) < r → (A.relax far st s).at_ (A.to q) ≤ (A.relax far st s).at_ (A.fr q) + A.ln q) ∧ (0 ≤ (A.relax far st s).last → ∃ v, v < N ∧ (A.relax far st s).last = v ∧ t' v = r) := by
      by_cases hc : A.Cond far st s
      · have hrl : A.relax far st s = A.put st s := by unfold Arcs.relax; rw [if_pos hc]
        rw [hrl]
        refine ⟨_, _, _, ninv_relax hL hne h hs hc, fun q hq h1 => ?_, fun _ => ⟨A.to s, (hL s hs).2, rfl, upd_same _ _ _⟩⟩
        have hne2 := hne s hs
        show upd st.at_ _ _ _ ≤ upd st.at_ _ _ _ + _
        rcases List.mem_cons.1 hq with rfl | hq
        · rw [upd_same, upd_ne hne2]; exact Int.le_refl _
        · by_cases e : A.fr q = A.to s
          · rw [e, upd_same] at h1; omega
          · rw [upd_ne e] at h1 ⊢
            have := hd q hq h1
            have c2 := hc.2
            by_cases e2 : A.to q = A.to s
            · rw [e2] at this ⊢; rw [upd_same]; omega
            · rw [upd_ne e2]; exact this
      · rw [relax_idle hc]
        refine ⟨clk, u, t, h, fun q hq h1 => ?_, hla⟩
        rcases List.mem_cons.1 hq with rfl | hq
        · have := h.near _ (hL _ hs).1
          unfold Arcs.Cond at hc
          omega
        · exact hd q hq h1
    obtain ⟨clk', u', t', k1, k2, k3⟩ := key
    obtain ⟨c2, u2, t2, m1, m2, m3⟩ := ninv_fold hL hne l (s :: done) (fun q hq => hl q (List.mem_cons_of_mem _ hq)) clk' _ u' t' k1 k2 k3
    refine ⟨c2, u2, t2, m1, fun q hq => m2 q ?_, m3⟩
    rcases hq with hq | hq
    · exact .inl (List.mem_cons_of_mem _ hq)
    · rcases List.mem_cons.1 hq with rfl | hq
      · exact .inl List.mem_cons_self
      · exact .inr hq
theorem ninv_reach {N : Nat} {L : List α} (hL : A.In N L) (hne : ∀ s ∈ L, A.fr s ≠ A.to s) {first : Nat → Int} (h : ∀ v, v < N → first v < far) (k0 : Int) : ∀ k, ∃ clk u t, NInv A far N L (k + 1) clk (A.reach far L ⟨first, fun _ => none, k0⟩ k) u t ∧ (1 ≤ k → 0 ≤ (A.reach far L ⟨first, fun _ => none, k0⟩ k).last → ∃ v, v < N ∧ (A.reach far L ⟨first, fun _ => none, k0⟩ k).last = v ∧ k ≤ t v)
  | 0 => ⟨0, _, _, ninv_start h k0, fun h => by omega⟩
  | k + 1 => by
    obtain ⟨clk, u, t, h1, _⟩ := ninv_reach hL hne h k0 k
    obtain ⟨c2, u2, t2, m1, m2, m3⟩ := ninv_fold (A := A) (far := far) hL hne L [] (fun _ h => h) clk { A.reach far L ⟨first, fun _ => none, k0⟩ k with last := -1 } u t ⟨h1.edge, h1.some_, h1.tle, h1.uniq, h1.ult, h1.old, h1.near⟩ (fun s hs => by simp at hs) (fun h => by simp at h)
    refine ⟨c2, u2, t2, ⟨m1.edge, m1.some_, fun v hv => by have := m1.tle v hv; omega, m1.uniq, m1.ult, fun s hs ht => m2 s (.inr hs) (by omega), m1.near⟩, fun _ hl => ?_⟩
    obtain ⟨v, hv, e, e2⟩ := m3 hl
    exact ⟨v, hv, e, by omega⟩
/-- the node before -/
def predO (A : Arcs α) (b : Nat → Option α) (v : Nat) : Nat := match b v with | some s => A.fr s | none => v
def predK (A : Arcs α) (b : Nat → Option α) (v : Nat) : Nat → Nat
  | 0 => v
  | k + 1 => predO A b (predK A b v k)
theorem predK_add (b : Nat → Option α) (v i : Nat) : ∀ j, predK A b v (i + j) = predK A b (predK A b v i) j
  | 0 => rfl
  | j + 1 => by rw [← Nat.add_assoc]; simp only [predK]; rw [predK_add b v i j]
/-- a round: the arcs back from a node to itself, with no node twice -/
structure Cyc (A : Arcs α) (b : Nat → Option α) (c : Nat → Nat) (l : List α) : Prop where
  len : 1 ≤ l.length
  back : c l.length = c 0
  step : ∀ y, (h : y < l.length) → b (c y) = some l[y] ∧ A.fr l[y] = c (y + 1)
  dist : ∀ i j, i < j → j < l.length → c i ≠ c j
theorem pigeon {N : Nat} (f : Nat → Nat) (h : ∀ i, i ≤ N → f i < N) : ∃ i j, i < j ∧ j ≤ N ∧ f i = f j := by
  refine Classical.byContradiction fun hn => ?_
  have : ((List.range (N + 1)).map f).Nodup := by
    rw [List.Nodup, List.pairwise_map]
    refine List.Pairwise.imp_of_mem ?_ List.pairwise_lt_range
    intro a b ha hb hab e
    exact hn ⟨a, b, hab, by have := List.mem_range.1 hb; omega, e⟩
  have h2 := range_len (N := N) this (fun x hx => by
    obtain ⟨i, hi, rfl⟩ := List.mem_map.1 hx
    exact h i (by have := List.mem_range.1 hi; omega))
  simp at h2
  omega
theorem least_nat {p : Nat → Prop} : ∀ n, p n → ∃ m, p m ∧ m ≤ n ∧ ∀ k, k < m → ¬ p k := by
  intro n
  induction n using Nat.strongRecOn with
  | _ n ih =>
    intro h
    by_cases hk : ∃ k, k < n ∧ p k
    · obtain ⟨k, h1, h2⟩ := hk
      obtain ⟨m, a, b, c⟩ := ih k h1 h2
      exact ⟨m, a, by omega, c⟩
    · exact ⟨n, h, Nat.le_refl _, fun k h1 h2 => hk ⟨k, h1, h2⟩⟩
theorem cyc_of {b : Nat → Option α} {c d : Nat} (hd : 1 ≤ d) (hb : predK A b c d = c) (hs : ∀ y, y < d → ∃ s, b (predK A b c y) = some s) : ∃ l, Cyc A b (predK A b c) l ∧ l.length ≤ d := by
  obtain ⟨m, ⟨m1, m2⟩, m3, m4⟩ := least_nat (p := fun d => 1 ≤ d ∧ predK A b c d = c) d ⟨hd, hb⟩
  have hl : ∀ k, k ≤ m → ∃ l : List α, l.length = k ∧ ∀ y, (h : y < l.length) → b (predK A b c y) = some l[y] := by
    intro k
    induction k with
    | zero => intro _; exact ⟨[], rfl, fun y h => by simp at h⟩
    | succ k ih =>
      intro hk
      obtain ⟨l, h1, h2⟩ := ih (by omega)
      obtain ⟨s, hs⟩ := hs k (by omega)
      refine ⟨l ++ [s], by simp [h1], fun y hy => ?_⟩
      by_cases e : y < l.length
      · rw [List.getElem_append_left e]; exact h2 y e
      · obtain rfl : y = l.length := by simp at hy; omega
        rw [List.getElem_append_right (Nat.le_refl _)]; simp [h1, hs]
  obtain ⟨l, h1, h2⟩ := hl m (Nat.le_refl _)
  refine ⟨l, ⟨by omega, by rw [h1]; exact m2, fun y hy => ⟨h2 y hy, ?_⟩, fun i j hij hj e => ?_⟩, by omega⟩
  · simp only [predK, predO]; rw [h2 y hy]
  · refine m4 (m - j + i) (by omega) ⟨by omega, ?_⟩
    rw [show m - j + i = i + (m - j) by omega, predK_add, e, ← predK_add, show j + (m - j) = m by omega]
    exact m2
theorem Cyc.lt {b : Nat → Option α} {c : Nat → Nat} {l : List α} (h : Cyc A b c l) {N : Nat} (h0 : c 0 < N) (hb : ∀ v, v < N → ∀ s, b v = some s → A.fr s < N) : ∀ y, y ≤ l.length → c y < N
  | 0, _ => h0
  | y + 1, hy => by
    obtain ⟨h1, h2⟩ := h.step y (by omega)
    rw [← h2]
    exact hb _ (h.lt h0 hb y (by omega)) _ h1
theorem sumLn_append (l m : List α) : sumLn A (l ++ m) = sumLn A l + sumLn A m := by
  induction l with
  | nil => simp [sumLn]
  | cons s l ih => simp only [List.cons_append, sumLn]; rw [ih]; omega
/-- such a round is shorter than nothing -/
theorem cyc_neg {N : Nat} {L : List α} (hL : A.In N L) (hne : ∀ s ∈ L, A.fr s ≠ A.to s) {r clk : Nat} {st : Lb α} {u t : Nat → Nat} (h : NInv A far N L r clk st u t) {c : Nat → Nat} {l : List α} (hc : Cyc A st.by_ c l) (h0 : c 0 < N) : sumLn A l < 0 := by
  have hlt := hc.lt h0 (fun v hv s hs => (hL s (h.edge v hv s hs).1).1)
  have key : ∀ k, k ≤ l.length → st.at_ (c k) + sumLn A (l.take k) < st.at_ (c 0) ∨ (st.at_ (c k) + sumLn A (l.take k) ≤ st.at_ (c 0) ∧ u (c k) ≤ u (c (min k 1)) ∧ u (c (min k 1)) ≤ u (c 0)) := by
    intro k
    induction k with
    | zero => intro _; exact .inr ⟨by simp [sumLn], Nat.le_refl _, Nat.le_refl _⟩
    | succ k ih =>
      intro hk
      obtain ⟨s1, s2⟩ := hc.step k (by omega)
      obtain ⟨e1, e2, e3, e4⟩ := h.edge _ (hlt k (by omega)) _ s1
      rw [s2] at e3 e4
      have hsum : sumLn A (l.take (k + 1)) = sumLn A (l.take k) + A.ln l[k] := by
        rw [List.take_succ_eq_append_getElem (by omega), sumLn_append]; simp [sumLn]
      rw [hsum]
      by_cases hu : u (c k) < u (c (k + 1))
      · rw [if_pos hu] at e3
        rcases ih (by omega) with ih | ⟨ih, _⟩
        · exact .inl (by omega)
        · exact .inl (by omega)
      · rw [if_neg hu] at e3
        rcases ih (by omega) with ih | ⟨ih, i2, i3⟩
        · exact .inl (by omega)
        · refine .inr ⟨by omega, ?_, ?_⟩
          · rw [show min (k + 1) 1 = 1 by omega]
            by_cases e : k = 0
            · subst e; exact Nat.le_refl _
            · rw [show min k 1 = 1 by omega] at i2; omega
          · rw [show min (k + 1) 1 = 1 by omega]
            by_cases e : k = 0
            · subst e; simp at hu; omega
            · rw [show min k 1 = 1 by omega] at i3; exact i3
  have hl := hc.len
  rcases key l.length (Nat.le_refl _) with k | ⟨k1, k2, k3⟩
  · rw [List.take_length, hc.back] at k; omega
  · rw [hc.back, show min l.length 1 = 1 by omega] at k2
    rw [show min l.length 1 = 1 by omega] at k3
    obtain ⟨s1, s2⟩ := hc.step 0 (by omega)
    obtain ⟨e1, e2, _⟩ := h.edge _ h0 _ s1
    have hs1 : st.by_ (c 0) ≠ none := by rw [s1]; simp
    have e10 : c 1 = c 0 := by
      by_cases e : l.length = 1
      · have := hc.back; rw [e] at this; exact this
      · obtain ⟨t1, _⟩ := hc.step 1 (by omega)
        exact h.uniq _ _ (hlt 1 (by omega)) h0 (by rw [t1]; simp) hs1 (by omega)
    exact absurd (by rw [s2, e2]; exact e10) (hne _ e1)
/-- the last round has changed something: going back as often as there are nodes ends on a round that is shorter than nothing -/
theorem reach_cyc {N : Nat} (hN : 1 ≤ N) {L : List α} (hL : A.In N L) (hne : ∀ s ∈ L, A.fr s ≠ A.to s) {first : Nat → Int} (h : ∀ v, v < N → first v < far) (k0 : Int) (hl : 0 ≤ (A.reach far L ⟨first, fun _ => none, k0⟩ N).last) :
    ∃ v, v < N ∧ (A.reach far L ⟨first, fun _ => none, k0⟩ N).last = v ∧ (∀ y, y < N → (∃ s, (A.reach far L ⟨first, fun _ => none, k0⟩ N).by_ (predK A (A.reach far L ⟨first, fun _ => none, k0⟩ N).by_ v y) = some s)) ∧ (∀ y, y ≤ N → predK A (A.reach far L ⟨first, fun _ => none, k0⟩ N).by_ v y < N) ∧
      ∃ l, Cyc A (A.reach far L ⟨first, fun _ => none, k0⟩ N).by_ (predK A (A.reach far L ⟨first, fun _ => none, k0⟩ N).by_ (predK A (A.reach far L ⟨first, fun _ => none, k0⟩ N).by_ v N)) l ∧ l.length ≤ N ∧ sumLn A l < 0 ∧ ∀ s ∈ l, s ∈ L := by
  obtain ⟨clk, u, t, hI, hv⟩ := ninv_reach (A := A) (far := far) hL hne h k0 N
  obtain ⟨v, v1, v2, v3⟩ := hv hN hl
  generalize A.reach far L ⟨first, fun _ => none, k0⟩ N = st at *
  have walk : ∀ y, y ≤ N → predK A st.by_ v y < N ∧ N ≤ t (predK A st.by_ v y) + y := by
    intro y
    induction y with
    | zero => intro _; exact ⟨v1, by simpa [predK] using v3⟩
    | succ y ih =>
      intro hy
      obtain ⟨i1, i2⟩ := ih (by omega)
      obtain ⟨s, hs⟩ := hI.some_ _ i1 (by omega)
      obtain ⟨e1, e2, e3, e4⟩ := hI.edge _ i1 _ hs
      have : predK A st.by_ v (y + 1) = A.fr s := by simp only [predK, predO]; rw [hs]
      rw [this]
      exact ⟨(hL s e1).1, by omega⟩
  have hsome : ∀ y, y < N → ∃ s, st.by_ (predK A st.by_ v y) = some s := fun y hy => by
    obtain ⟨i1, i2⟩ := walk y (by omega)
    exact hI.some_ _ i1 (by omega)
  refine ⟨v, v1, v2, hsome, fun y hy => (walk y hy).1, ?_⟩
  obtain ⟨i, j, hij, hj, e⟩ := pigeon (predK A st.by_ v) (fun i hi => (walk i hi).1)
  -- d = j - i: the last d nodes are a round
  have hshift : predK A st.by_ v (N - (j - i)) = predK A st.by_ v N := by
    rw [show N - (j - i) = i + (N - j) by omega, predK_add, e, ← predK_add, show j + (N - j) = N by omega]
  have hback : predK A st.by_ (predK A st.by_ v N) (j - i) = predK A st.by_ v N := by
    rw [← hshift, ← predK_add, show N - (j - i) + (j - i) = N by omega, hshift]
  obtain ⟨l, hc, hlen⟩ := cyc_of (A := A) (b := st.by_) (by omega : 1 ≤ j - i) hback (fun y hy => by
    rw [← hshift, ← predK_add]; exact hsome _ (by omega))
  have h0 : predK A st.by_ (predK A st.by_ v N) 0 < N := (walk N (Nat.le_refl _)).1
  refine ⟨l, hc, by omega, cyc_neg hL hne hI hc h0, fun s hs => ?_⟩
  obtain ⟨y, hy, rfl⟩ := List.getElem_of_mem hs
  have hlt := hc.lt h0 (fun v hv s hs => (hL s (hI.edge v hv s hs).1).1)
  exact (hI.edge _ (hlt y (by omega)) _ (hc.step y hy).1).1
end
/-! rounds of flows -/
theorem sumLn_two {α : Type} {A : Arcs α} (l : List α) (h : l.length = 2) : sumLn A l = A.ln (l[0]'(by omega)) + A.ln (l[1]'(by omega)) := by
  match l, h with
  | [x, y], _ => simp [sumLn]
theorem cyc_roads {G : NetG} {b : Nat → Option Int} {c : Nat → Nat} {l : List Int} (h : Cyc G.arcs b c l) (hto : ∀ y, (hy : y < l.length) → G.arcs.to l[y] = c y) (hst : ∀ s ∈ l, G.IsStep s) (hneg : sumLn G.arcs l < 0) : (l.map eNo).Nodup := by
  rw [List.Nodup, List.pairwise_map, List.pairwise_iff_getElem]
  intro i j hi hj hij e
  have si := h.step i hi
  have sj := h.step j hj
  have ti := hto i hi
  have tj := hto j hj
  rcases eNo_eq (hst _ (List.getElem_mem hi)).1 (hst _ (List.getElem_mem hj)).1 e with e2 | e2
  · rw [e2, tj] at ti
    exact h.dist i j hij hj ti.symm
  · have hsj := (hst _ (List.getElem_mem hj)).1
    have e3 : eNo (-l[j]) = eNo l[j] := by rw [← e2]; exact e
    have f1 : G.arcs.fr l[i] = G.arcs.to l[j] := by
      rw [e2]; simp only [NetG.arcs, e3]; split <;> split <;> first | rfl | omega
    have f2 : G.arcs.to l[i] = G.arcs.fr l[j] := by
      rw [e2]; simp only [NetG.arcs, e3]; split <;> split <;> first | rfl | omega
    have f3 : G.arcs.ln l[i] = -G.arcs.ln l[j] := by
      rw [e2]; simp only [NetG.arcs, e3]; split <;> split <;> first | rfl | omega
    have a1 : i + 1 = j := Classical.byContradiction fun hn => h.dist (i + 1) j (by omega) hj (by rw [← si.2, f1, tj])
    have a2 : j + 1 = l.length := Classical.byContradiction fun hn => h.dist i (j + 1) (by omega) (by omega) (by rw [← sj.2, ← f2, ti])
    have a3 : i = 0 := Classical.byContradiction fun hn => h.dist 0 i (by omega) hi (by rw [← h.back, ← a2, ← sj.2, ← f2, ti])
    subst a3
    subst a1
    have := sumLn_two (A := G.arcs) l (by omega)
    rw [this] at hneg
    simp only [Nat.zero_add] at f3
    omega
theorem cyc_out {G : NetG} {b : Nat → Option Int} {c : Nat → Nat} {l : List Int} (h : Cyc G.arcs b c l) (hto : ∀ y, (hy : y < l.length) → G.arcs.to l[y] = c y) (v : Nat) : sumEnd G v l = 0 := by
  have app : ∀ (l m : List Int), sumEnd G v (l ++ m) = sumEnd G v l + sumEnd G v m := by
    intro l
    induction l with
    | nil => intro m; simp [sumEnd]
    | cons s l ih => intro m; simp only [List.cons_append, sumEnd]; rw [ih]; omega
  have key : ∀ k, k ≤ l.length → sumEnd G v (l.take k) = one (c k) v - one (c 0) v := by
    intro k
    induction k with
    | zero => intro _; simp [sumEnd]
    | succ k ih =>
      intro hk
      rw [List.take_succ_eq_append_getElem (by omega), app, ih (by omega)]
      simp only [sumEnd]
      rw [(h.step k (by omega)).2, hto k (by omega)]
      omega
  have := key l.length (Nat.le_refl _)
  rw [List.take_length, h.back] at this
  omega
end Go.Proofs.Ytodlbgncdggimaa
/- Plain words of labels along arcs: rounds until nothing changes. No program in sight. -/
namespace Go.Proofs.Ytodlbgncdggimaa

section
variable {α : Type} {A : Arcs α} {far : Int}
theorem sumN_put (f : Nat → Int) (a : Nat) (x : Int) : ∀ n, sumN (upd f a x) n = sumN f n + if a < n then x - f a else 0
  | 0 => by simp [sumN]
  | n + 1 => by
    simp only [sumN]
    rw [sumN_put f a x n]
    by_cases e : n = a
    · subst e
      rw [upd_same, if_neg (by omega), if_pos (by omega)]; omega
    · rw [upd_ne e]
      split <;> split <;> omega
theorem relax_sum {N : Nat} {L : List α} (hL : A.In N L) (st : Lb α) {s : α} (hs : s ∈ L) : (A.relax far st s = st) ∨ (sumN (A.relax far st s).at_ N < sumN st.at_ N ∧ (A.relax far st s).last = A.to s) := by
  by_cases hc : A.Cond far st s
  · right
    have hr : A.relax far st s = A.put st s := by unfold Arcs.relax; rw [if_pos hc]
    rw [hr]
    refine ⟨?_, rfl⟩
    show sumN (upd st.at_ (A.to s) (st.at_ (A.fr s) + A.ln s)) N < _
    rw [sumN_put, if_pos (hL s hs).2]
    have := hc.2
    omega
  · left; exact relax_idle hc
theorem fold_sum {N : Nat} {L : List α} (hL : A.In N L) : ∀ {l : List α} {st : Lb α}, (∀ s ∈ l, s ∈ L) → sumN (l.foldl (A.relax far) st).at_ N ≤ sumN st.at_ N ∧ ((l.foldl (A.relax far) st).last = st.last ∨ sumN (l.foldl (A.relax far) st).at_ N < sumN st.at_ N)
  | [], st, _ => ⟨Int.le_refl _, .inl rfl⟩
  | s :: l, st, h => by
    rw [List.foldl_cons]
    obtain ⟨h1, h2⟩ := fold_sum (N := N) hL (l := l) (st := A.relax far st s) (fun t ht => h t (List.mem_cons_of_mem _ ht))
    rcases relax_sum (far := far) hL st (h s List.mem_cons_self) with e | ⟨e1, e2⟩
    · rw [e] at h1 h2 ⊢; exact ⟨h1, h2⟩
    · exact ⟨by omega, .inr (by omega)⟩
theorem round_sum {N : Nat} {L : List α} (hL : A.In N L) {st : Lb α} (h : 0 ≤ (A.round far L st).last) : sumN (A.round far L st).at_ N < sumN st.at_ N := by
  obtain ⟨_, h2⟩ := fold_sum (far := far) hL (l := L) (st := { st with last := -1 }) (fun _ hs => hs)
  rcases h2 with e | e
  · have e' : (A.round far L st).last = -1 := e
    omega
  · exact e
/-- what holds between the rounds -/
structure RunInv (A : Arcs α) (far : Int) (N : Nat) (L : List α) (p first : Nat → Int) (st : Lb α) : Prop where
  inv : LInv A far N L p first st
  far_ : ∀ v, v < N → st.at_ v ≤ far
  le : ∀ v, st.at_ v ≤ first v
theorem run_start {N : Nat} {L : List α} {p first : Nat → Int} (hf : ∀ v, v < N → first v ≤ far) (k : Int) : RunInv A far N L p first ⟨first, fun _ => none, k⟩ := ⟨linv_start.last k, hf, fun _ => Int.le_refl _⟩
theorem RunInv.relax {N : Nat} {L : List α} {p first : Nat → Int} {st : Lb α} (h : RunInv A far N L p first st) (hL : A.In N L) (hp : A.Pot L p) {s : α} (hs : s ∈ L) : RunInv A far N L p first (A.relax far st s) :=
  ⟨h.inv.relax hL hp h.far_ hs, fun v hv => Int.le_trans (relax_le st s v) (h.far_ v hv), fun v => Int.le_trans (relax_le st s v) (h.le v)⟩
theorem RunInv.last {N : Nat} {L : List α} {p first : Nat → Int} {st : Lb α} (h : RunInv A far N L p first st) (k : Int) : RunInv A far N L p first { st with last := k } := ⟨h.inv.last k, h.far_, h.le⟩
theorem RunInv.fold {N : Nat} {L : List α} {p first : Nat → Int} (hL : A.In N L) (hp : A.Pot L p) : ∀ {l : List α} {st : Lb α}, (∀ s ∈ l, s ∈ L) → RunInv A far N L p first st → RunInv A far N L p first (l.foldl (A.relax far) st)
  | [], _, _, h => h
  | s :: l, st, hl, h => by
    rw [List.foldl_cons]
    exact RunInv.fold hL hp (fun t ht => hl t (List.mem_cons_of_mem _ ht)) (h.relax hL hp (hl s List.mem_cons_self))
theorem RunInv.round {N : Nat} {L : List α} {p first : Nat → Int} {st : Lb α} (h : RunInv A far N L p first st) (hL : A.In N L) (hp : A.Pot L p) : RunInv A far N L p first (A.round far L st) :=
  RunInv.fold hL hp (fun _ hs => hs) (h.last (-1))
theorem RunInv.end_ {N : Nat} {L : List α} {p first : Nat → Int} {st : Lb α} (h : RunInv A far N L p first st) (hs : A.Sat far L st.at_) : LEnd A far N L p first st.at_ st.by_ := by
  refine ⟨hs, fun v hv s hb => ?_, h.inv.root, h.inv.ends, fun v _ => h.le v⟩
  obtain ⟨e1, e2, e3, e4, e5⟩ := h.inv.edge v hv s hb
  have := hs s e1 e3
  rw [e2] at this
  exact ⟨e1, e2, e3, e4, by omega⟩
/-- no label is further below its beginning than so many arcs are long -/
theorem LInv.low {N : Nat} {L : List α} {p first : Nat → Int} {st : Lb α} (h : LInv A far N L p first st) (hL : A.In N L) {K F : Int} (hK : 0 ≤ K) (hl : ∀ s ∈ L, -K ≤ A.ln s) (hF : ∀ v, v < N → F ≤ first v) {v : Nat} (hv : v < N) : F - (N - 1) * K ≤ st.at_ v := by
  obtain ⟨l, r, hc⟩ := h.ends v hv
  have key : ∀ {w l r}, w < N → Chn A st.by_ w l r → F - l.length * K ≤ st.at_ w ∧ ∀ s ∈ l, s ∈ L := by
    intro w l r hw hch
    induction hch with
    | @nil w h1 => exact ⟨by rw [h.root w hw h1]; have := hF w hw; simp; omega, fun _ hs => by simp at hs⟩
    | @cons w t l r h1 h2 ih =>
      obtain ⟨e1, e2, e3, e4, e5⟩ := h.edge w hw t h1
      obtain ⟨i1, i2⟩ := ih (hL t e1).1
      refine ⟨?_, fun s hs => ?_⟩
      · have := hl t e1
        simp only [List.length_cons, Int.natCast_add, Int.add_mul]
        simp only [Int.cast_ofNat_Int, Int.one_mul]
        omega
      · rcases List.mem_cons.1 hs with rfl | hs
        · exact e1
        · exact i2 s hs
  obtain ⟨k1, k2⟩ := key hv hc
  have h5 := hc.short hL hv k2
  have h7 : (l.length : Int) * K ≤ (N - 1) * K := Int.mul_le_mul_of_nonneg_right (by omega) hK
  omega
theorem chn_roots {N : Nat} {L : List α} {p first at_ : Nat → Int} {b : Nat → Option α} (h : LEnd A far N L p first at_ b) (hL : A.In N L) {v : Nat} (hv : v < N) {l : List α} {r : Nat} (hc : Chn A b v l r) : r < N ∧ (∀ s ∈ l, s ∈ L) ∧ l.length + 1 ≤ N ∧ (l.map A.fr).Nodup := by
  obtain ⟨_, h2, h3, _, _⟩ := h.tele hL hv hc
  have := hc.nodup
  rw [List.nodup_cons] at this
  exact ⟨h2, h3, hc.short hL hv h3, this.2⟩
end
end Go.Proofs.Ytodlbgncdggimaa
/- Plain words of cells: pixels are given to sites, each along a cheapest chain; owners that fit. No program in sight. -/
namespace Go.Proofs.Ytodlbgncdggimaa

/-- the arcs: pixel s.1 goes from its owner to the site s.2 -/
def cArcs (d : Nat → Nat → Int) (O : Nat → Nat) : Arcs (Nat × Nat) := ⟨fun s => O s.1, fun s => s.2, fun s => d s.1 s.2 - d s.1 (O s.1)⟩
def cList (m n : Nat) : List (Nat × Nat) := (List.range m).flatMap fun k => (List.range n).map fun j => (k, j)
theorem cList_mem {m n : Nat} {s : Nat × Nat} : s ∈ cList m n ↔ s.1 < m ∧ s.2 < n := by
  unfold cList
  rw [List.mem_flatMap]
  constructor
  · rintro ⟨k, hk, hs⟩
    obtain ⟨j, hj, rfl⟩ := List.mem_map.1 hs
    exact ⟨List.mem_range.1 hk, List.mem_range.1 hj⟩
  · rintro ⟨h1, h2⟩
    exact ⟨s.1, List.mem_range.2 h1, List.mem_map.2 ⟨s.2, List.mem_range.2 h2, rfl⟩⟩
theorem cList_succ (m n : Nat) : cList (m + 1) n = cList m n ++ (List.range n).map fun j => (m, j) := by simp [cList, List.range_succ, List.flatMap_append]
/-- the owner i of the pixel k fits the weights -/
def FitsAt (d : Nat → Nat → Int) (n : Nat) (p : Nat → Int) (k i : Nat) : Prop := ∀ j, j < n → d k i - p i ≤ d k j - p j
def FitsTo (d : Nat → Nat → Int) (O : Nat → Nat) (m n : Nat) (p : Nat → Int) : Prop := ∀ k, k < m → FitsAt d n p k (O k)
theorem fits_pot {d : Nat → Nat → Int} {O : Nat → Nat} {m n : Nat} {p : Nat → Int} : FitsTo d O m n p ↔ (cArcs d O).Pot (cList m n) p := by
  constructor
  · intro h s hs
    obtain ⟨h1, h2⟩ := cList_mem.1 hs
    have := h s.1 h1 s.2 h2
    simp only [cArcs]; omega
  · intro h k hk j hj
    have := h (k, j) (cList_mem.2 ⟨hk, hj⟩)
    simp only [cArcs] at this; omega
theorem cArcs_in {d : Nat → Nat → Int} {O : Nat → Nat} {m n : Nat} (hO : ∀ k, k < m → O k < n) : (cArcs d O).In n (cList m n) := fun s hs => by
  obtain ⟨h1, h2⟩ := cList_mem.1 hs
  exact ⟨hO _ h1, h2⟩
/-- labels that nothing changes any more are weights that the owners fit -/
theorem sat_fits {d : Nat → Nat → Int} {O : Nat → Nat} {m n : Nat} {far : Int} {at_ : Nat → Int} (hO : ∀ k, k < m → O k < n) (hs : (cArcs d O).Sat far (cList m n) at_) (hf : ∀ v, v < n → at_ v < far) : FitsTo d O m n at_ := fun k hk j hj => by
  have := hs (k, j) (cList_mem.2 ⟨hk, hj⟩) (hf _ (hO k hk))
  simp only [cArcs] at this; omega
/-- how many of the first m pixels the site i owns -/
def cntO (O : Nat → Nat) (i : Nat) : Nat → Int
  | 0 => 0
  | m + 1 => cntO O i m + if O m = i then 1 else 0
theorem cntO_upd (O : Nat → Nat) (i k v : Nat) : ∀ m, cntO (upd O k v) i m = cntO O i m + if k < m then (if v = i then 1 else 0) - (if O k = i then 1 else 0) else 0
  | 0 => by simp [cntO]
  | m + 1 => by
    simp only [cntO]
    rw [cntO_upd O i k v m]
    by_cases e : m = k
    · subst e
      have h1 : ¬ m < m := by omega
      have h2 : m < m + 1 := by omega
      rw [upd_same, if_neg h1, if_pos h2]; omega
    · rw [upd_ne e]
      by_cases h : k < m
      · have h2 : k < m + 1 := by omega
        rw [if_pos h, if_pos h2]; omega
      · have h2 : ¬ k < m + 1 := by omega
        rw [if_neg h, if_neg h2]; omega
theorem cntO_bd (O : Nat → Nat) (i : Nat) : ∀ m, 0 ≤ cntO O i m ∧ cntO O i m ≤ m
  | 0 => by simp [cntO]
  | m + 1 => by
    have := cntO_bd O i m
    simp only [cntO]
    split <;> omega
/-- the walk back along a chain: each pixel on it goes to the next site, the new one to the first -/
def walkO (b : Nat → Option (Nat × Nat)) (fr : Nat × Nat → Nat) (m : Nat) : Nat → Nat → (Nat → Nat) → Option (Nat → Nat)
  | 0, _, _ => none
  | F + 1, v, O => match b v with
    | none => some (upd O m v)
    | some s => walkO b fr m F (fr s) (upd O s.1 v)
theorem walk_chn {d : Nat → Nat → Int} {O : Nat → Nat} {m n : Nat} {p : Nat → Int} {b : Nat → Option (Nat × Nat)} {v : Nat} {l : List (Nat × Nat)} {r : Nat} (hc : Chn (cArcs d O) b v l r)
    (hfit : ∀ w, w < n → ∀ s, b w = some s → s.1 < m ∧ O s.1 < n ∧ FitsAt d n p s.1 w) (hroot : ∀ w, w < n → b w = none → FitsAt d n p m w) : ∀ {F : Nat} {Oc : Nat → Nat}, l.length < F → v < n → (∀ s ∈ l, Oc s.1 = O s.1) → (l.map (cArcs d O).fr).Nodup → (∀ k, k < m → FitsAt d n p k (Oc k) ∧ Oc k < n) →
    ∃ O', walkO b (cArcs d O).fr m F v Oc = some O' ∧ (∀ k, k < m + 1 → FitsAt d n p k (O' k) ∧ O' k < n) ∧ ∀ i, cntO O' i (m + 1) = cntO Oc i m + if i = v then 1 else 0 := by
  induction hc with
  | @nil v h1 =>
    intro F Oc hF hv _ _ hO
    obtain ⟨F, rfl⟩ : ∃ F', F = F' + 1 := ⟨F - 1, by omega⟩
    refine ⟨upd Oc m v, by simp [walkO, h1], fun k hk => ?_, fun i => ?_⟩
    · by_cases e : k = m
      · subst e; rw [upd_same]; exact ⟨hroot v hv h1, hv⟩
      · rw [upd_ne e]; exact hO k (by omega)
    · simp only [cntO]
      have h0 : ¬ m < m := by omega
      rw [cntO_upd, if_neg h0, upd_same]
      by_cases e : i = v
      · rw [if_pos e, if_pos e.symm]; omega
      · rw [if_neg e, if_neg (fun h => e h.symm)]; omega
  | @cons v s l r h1 h2 ih =>
    intro F Oc hF hv hsame hnd hO
    obtain ⟨F, rfl⟩ : ∃ F', F = F' + 1 := ⟨F - 1, by omega⟩
    obtain ⟨f1, f2, f3⟩ := hfit v hv s h1
    rw [List.map_cons, List.nodup_cons] at hnd
    have hs := hsame s List.mem_cons_self
    obtain ⟨O', e1, e2, e3⟩ := ih (F := F) (Oc := upd Oc s.1 v) (by simp at hF; omega) f2 (fun t ht => by
      have hne : t.1 ≠ s.1 := fun e => hnd.1 (List.mem_map.2 ⟨t, ht, by show O t.1 = O s.1; rw [e]⟩)
      rw [upd_ne hne]; exact hsame t (List.mem_cons_of_mem _ ht)) hnd.2 (fun k hk => by
      by_cases e : k = s.1
      · subst e; rw [upd_same]; exact ⟨f3, hv⟩
      · rw [upd_ne e]; exact hO k hk)
    refine ⟨O', by simp only [walkO, h1]; exact e1, e2, fun i => ?_⟩
    rw [e3 i, cntO_upd, if_pos f1, hs]
    show _ = cntO Oc i m + _
    have : (cArcs d O).fr s = O s.1 := rfl
    rw [this]
    by_cases a1 : v = i <;> by_cases a2 : O s.1 = i
    · rw [if_pos a1, if_pos a2, if_pos a2.symm, if_pos a1.symm]; omega
    · rw [if_pos a1, if_neg a2, if_neg (fun h => a2 h.symm), if_pos a1.symm]; omega
    · rw [if_neg a1, if_pos a2, if_pos a2.symm, if_neg (fun h => a1 h.symm)]; omega
    · rw [if_neg a1, if_neg a2, if_neg (fun h => a2 h.symm), if_neg (fun h => a1 h.symm)]; omega
/-- one pixel more -/
theorem share_more {d : Nat → Nat → Int} {O : Nat → Nat} {m n : Nat} {far : Int} {p at_ : Nat → Int} {b : Nat → Option (Nat × Nat)} (hO : ∀ k, k < m → O k < n) (hE : LEnd (cArcs d O) far n (cList m n) p (d m) at_ b) (hf : ∀ v, v < n → at_ v < far) {v : Nat} (hv : v < n) :
    ∃ O', walkO b (cArcs d O).fr m n v O = some O' ∧ FitsTo d O' (m + 1) n at_ ∧ (∀ k, k < m + 1 → O' k < n) ∧ ∀ i, cntO O' i (m + 1) = cntO O i m + if i = v then 1 else 0 := by
  have hin := cArcs_in (d := d) hO
  obtain ⟨l, r, hc⟩ := hE.ends v hv
  obtain ⟨_, _, c3, c4⟩ := chn_roots hE hin hv hc
  have hfit := sat_fits hO hE.sat hf
  obtain ⟨O', e1, e2, e3⟩ := walk_chn (p := at_) hc (fun w hw s hs => by
    obtain ⟨g1, g2, g3, g4, g5⟩ := hE.edge w hw s hs
    obtain ⟨g6, g7⟩ := cList_mem.1 g1
    refine ⟨g6, hO _ g6, fun j hj => ?_⟩
    have h1 := hfit s.1 g6 j hj
    simp only [cArcs] at g2 g5
    subst g2
    omega) (fun w hw hb j hj => by
    have h1 := hE.root w hw hb
    have h2 := hE.le j hj
    omega) (F := n) (Oc := O) (by omega) hv (fun s _ => rfl) c4 (fun k hk => ⟨hfit k hk, hO k hk⟩)
  exact ⟨O', e1, fun k hk => (e2 k hk).1, fun k hk => (e2 k hk).2, e3⟩
end Go.Proofs.Ytodlbgncdggimaa
/- Plain words of cells: owners that cost less by a round of sites; owners that fit cost least. No program in sight. -/
namespace Go.Proofs.Ytodlbgncdggimaa

/-! what owners cost -/
def costO (d : Nat → Nat → Int) (O : Nat → Nat) : Nat → Int
  | 0 => 0
  | m + 1 => costO d O m + d m (O m)
theorem costO_upd (d : Nat → Nat → Int) (O : Nat → Nat) (k v : Nat) : ∀ m, costO d (upd O k v) m = costO d O m + if k < m then d k v - d k (O k) else 0
  | 0 => by simp [costO]
  | m + 1 => by
    simp only [costO]
    rw [costO_upd d O k v m]
    by_cases e : m = k
    · subst e
      have h1 : ¬ m < m := by omega
      have h2 : m < m + 1 := by omega
      rw [upd_same, if_neg h1, if_pos h2]; omega
    · rw [upd_ne e]
      by_cases h : k < m
      · have h2 : k < m + 1 := by omega
        rw [if_pos h, if_pos h2]; omega
      · have h2 : ¬ k < m + 1 := by omega
        rw [if_neg h, if_neg h2]; omega
/-- the weights of the owners of the first m pixels -/
def wgtO (p : Nat → Int) (O : Nat → Nat) : Nat → Int
  | 0 => 0
  | m + 1 => wgtO p O m + p (O m)
theorem wgt_cnt (p : Nat → Int) (O : Nat → Nat) (n : Nat) : ∀ m, (∀ k, k < m → O k < n) → wgtO p O m = sumN (fun i => cntO O i m * p i) n
  | 0, _ => by
    simp only [wgtO, cntO]
    exact ((sumN_congr fun i _ => by simp).trans (sumN_zero n)).symm
  | m + 1, h => by
    simp only [wgtO, cntO]
    rw [wgt_cnt p O n m (fun k hk => h k (by omega))]
    have h1 : ∀ i, i < n → (cntO O i m + if O m = i then 1 else 0) * p i = cntO O i m * p i + (if i = O m then p i else 0) := fun i _ => by
      by_cases e : O m = i
      · rw [if_pos e, if_pos e.symm, Int.add_mul, Int.one_mul]
      · rw [if_neg e, if_neg (fun h => e h.symm), Int.add_zero, Int.add_zero]
    rw [sumN_congr h1, sumN_add, sumN_pick p, if_pos (h m (by omega))]
theorem cost_ge {d : Nat → Nat → Int} {O O2 : Nat → Nat} {n : Nat} {p : Nat → Int} : ∀ {m : Nat}, FitsTo d O m n p → (∀ k, k < m → O2 k < n) → costO d O m - wgtO p O m ≤ costO d O2 m - wgtO p O2 m
  | 0, _, _ => by simp [costO, wgtO]
  | m + 1, h, h2 => by
    have ih := cost_ge (m := m) (fun k hk => h k (by omega)) (fun k hk => h2 k (by omega))
    have := h m (by omega) (O2 m) (h2 m (by omega))
    simp only [costO, wgtO]; omega
/-- owners that fit cost least among those with their shares -/
theorem fits_least {d : Nat → Nat → Int} {O O2 : Nat → Nat} {m n : Nat} {p : Nat → Int} (h : FitsTo d O m n p) (h1 : ∀ k, k < m → O k < n) (h2 : ∀ k, k < m → O2 k < n) (hc : ∀ i, i < n → cntO O i m = cntO O2 i m) : costO d O m ≤ costO d O2 m := by
  have h3 := cost_ge h h2
  have h4 : wgtO p O m = wgtO p O2 m := by
    rw [wgt_cnt p O n m h1, wgt_cnt p O2 n m h2]
    exact sumN_congr fun i hi => by rw [hc i hi]
  omega
/-! the pixel of the site i that costs least to give to the site k -/
def chg (d : Nat → Nat → Int) (O : Nat → Nat) (i k : Nat) : Nat → Option (Nat × Int)
  | 0 => none
  | p + 1 => if O p = i then (match chg d O i k p with
      | none => some (p, d p k - d p i)
      | some q => if d p k - d p i < q.2 then some (p, d p k - d p i) else some q) else chg d O i k p
theorem chg_some {d : Nat → Nat → Int} {O : Nat → Nat} {i k : Nat} : ∀ {m : Nat} {q : Nat × Int}, chg d O i k m = some q → q.1 < m ∧ O q.1 = i ∧ q.2 = d q.1 k - d q.1 i ∧ ∀ p, p < m → O p = i → q.2 ≤ d p k - d p i
  | 0, q, h => by simp [chg] at h
  | m + 1, q, h => by
    simp only [chg] at h
    by_cases e : O m = i
    · rw [if_pos e] at h
      cases hc : chg d O i k m with
      | none =>
        rw [hc] at h
        injection h with h
        subst h
        refine ⟨by omega, e, rfl, fun p hp ho => ?_⟩
        by_cases e2 : p = m
        · subst e2; exact Int.le_refl _
        · exfalso
          have key : ∀ m', m' ≤ m → chg d O i k m' = none → ∀ p, p < m' → O p ≠ i := by
            intro m'
            induction m' with
            | zero => intro _ _ p hp; omega
            | succ m' ih =>
              intro hm' hn p hp
              simp only [chg] at hn
              by_cases e3 : O m' = i
              · rw [if_pos e3] at hn
                split at hn
                · simp at hn
                · split at hn <;> simp at hn
              · rw [if_neg e3] at hn
                by_cases e4 : p = m'
                · subst e4; exact e3
                · exact ih (by omega) hn p (by omega)
          exact key m (Nat.le_refl _) hc p (by omega) ho
      | some q' =>
        rw [hc] at h
        obtain ⟨i1, i2, i3, i4⟩ := chg_some hc
        simp only at h
        by_cases e2 : d m k - d m i < q'.2
        · rw [if_pos e2] at h
          injection h with h
          subst h
          refine ⟨by omega, e, rfl, fun p hp ho => ?_⟩
          by_cases e3 : p = m
          · subst e3; exact Int.le_refl _
          · have := i4 p (by omega) ho
            show d m k - d m i ≤ _
            omega
        · rw [if_neg e2] at h
          injection h with h
          subst h
          refine ⟨by omega, i2, i3, fun p hp ho => ?_⟩
          by_cases e3 : p = m
          · subst e3; omega
          · exact i4 p (by omega) ho
    · rw [if_neg e] at h
      obtain ⟨i1, i2, i3, i4⟩ := chg_some h
      refine ⟨by omega, i2, i3, fun p hp ho => ?_⟩
      by_cases e3 : p = m
      · subst e3; exact absurd ho e
      · exact i4 p (by omega) ho
theorem chg_none {d : Nat → Nat → Int} {O : Nat → Nat} {i k : Nat} : ∀ {m : Nat}, chg d O i k m = none → ∀ p, p < m → O p ≠ i
  | 0, _, p, hp => by omega
  | m + 1, hn, p, hp => by
    simp only [chg] at hn
    by_cases e3 : O m = i
    · rw [if_pos e3] at hn
      split at hn
      · simp at hn
      · split at hn <;> simp at hn
    · rw [if_neg e3] at hn
      by_cases e4 : p = m
      · subst e4; exact e3
      · exact chg_none hn p (by omega)
/-! rounds of sites -/
def gArcs (d : Nat → Nat → Int) (O : Nat → Nat) (m : Nat) : Arcs (Nat × Nat) := ⟨fun s => s.1, fun s => s.2, fun s => ((chg d O s.1 s.2 m).getD (0, 0)).2⟩
def gOk (d : Nat → Nat → Int) (O : Nat → Nat) (m : Nat) (s : Nat × Nat) : Bool := !decide (s.1 = s.2) && (chg d O s.1 s.2 m).isSome
def gList (d : Nat → Nat → Int) (O : Nat → Nat) (m n : Nat) : List (Nat × Nat) := (cList n n).filter (gOk d O m)
theorem gList_mem {d : Nat → Nat → Int} {O : Nat → Nat} {m n : Nat} {s : Nat × Nat} : s ∈ gList d O m n ↔ s.1 < n ∧ s.2 < n ∧ s.1 ≠ s.2 ∧ ∃ q, chg d O s.1 s.2 m = some q := by
  unfold gList
  rw [List.mem_filter, cList_mem]
  unfold gOk
  rw [Bool.and_eq_true, Bool.not_eq_true', decide_eq_false_iff_not, Option.isSome_iff_exists]
  exact ⟨fun ⟨⟨a, b⟩, c, e⟩ => ⟨a, b, c, e⟩, fun ⟨a, b, c, e⟩ => ⟨⟨a, b⟩, c, e⟩⟩
theorem gArcs_in {d : Nat → Nat → Int} {O : Nat → Nat} {m n : Nat} : (gArcs d O m).In n (gList d O m n) := fun s hs => by
  obtain ⟨h1, h2, _⟩ := gList_mem.1 hs
  exact ⟨h1, h2⟩
def impS (d : Nat → Nat → Int) (far : Int) (O : Nat → Nat) (m n : Nat) : Lb (Nat × Nat) := (gArcs d O m).reach far (gList d O m n) ⟨fun _ => 0, fun _ => none, -1⟩ n
/-- nothing has changed in the last round: the labels are weights that the owners fit -/
theorem imp_none {d : Nat → Nat → Int} {far : Int} {O : Nat → Nat} {m n : Nat} (hn : 1 ≤ n) (hf : 0 < far) (hO : ∀ k, k < m → O k < n) (hl : (impS d far O m n).last < 0) : ∃ p, FitsTo d O m n p := by
  obtain ⟨K, rfl⟩ : ∃ K, n = K + 1 := ⟨n - 1, by omega⟩
  have hl2 : ((gArcs d O m).round far (gList d O m (K + 1)) ((gArcs d O m).reach far (gList d O m (K + 1)) ⟨fun _ => 0, fun _ => none, -1⟩ K)).last < 0 := hl
  obtain ⟨s1, s2⟩ := last_sat hl2
  refine ⟨((gArcs d O m).reach far (gList d O m (K + 1)) ⟨fun _ => 0, fun _ => none, -1⟩ K).at_, fun k hk j hj => ?_⟩
  have hok := hO k hk
  by_cases e : O k = j
  · subst e; exact Int.le_refl _
  cases hc : chg d O (O k) j m with
  | none => exact absurd rfl (chg_none hc k hk)
  | some q =>
    have hle := reach_le (A := gArcs d O m) (far := far) (gList d O m (K + 1)) ⟨fun _ => 0, fun _ => none, -1⟩ (O k) K
    have := s1 (O k, j) (gList_mem.2 ⟨hok, hj, e, q, hc⟩) (by
      show ((gArcs d O m).reach far (gList d O m (K + 1)) ⟨fun _ => 0, fun _ => none, -1⟩ K).at_ (O k) < far
      simp only at hle
      omega)
    obtain ⟨_, _, _, h4⟩ := chg_some hc
    have h5 := h4 k hk rfl
    have h6 : (gArcs d O m).ln (O k, j) = q.2 := by simp [gArcs, hc]
    rw [h6] at this
    exact (fun (x y a b z : Int) (h1 : y ≤ x + z) (h2 : z ≤ b - a) => (by omega : a - x ≤ b - y)) _ _ _ _ _ this h5
/-- the owners after the first y changes -/
def passTo (O : Nat → Nat) (pix own : Nat → Nat) : Nat → Nat → Nat
  | 0 => O
  | y + 1 => upd (passTo O pix own y) (pix y) (own y)
theorem pass_all {d : Nat → Nat → Int} {O : Nat → Nat} {m n : Nat} {c pix : Nat → Nat} {len : Nat} (hlt : ∀ y, y ≤ len → c y < n) (hback : c len = c 0) (hdist : ∀ i j, i < j → j < len → c i ≠ c j) (hp : ∀ y, y < len → pix y < m ∧ O (pix y) = c (y + 1)) (hO : ∀ k, k < m → O k < n) :
    ∀ y, y ≤ len → (∀ k, k < m → passTo O pix c y k < n) ∧ (∀ k, (∀ t, t < y → pix t ≠ k) → passTo O pix c y k = O k) ∧ (∀ i, cntO (passTo O pix c y) i m = cntO O i m + (if c 0 = i then 1 else 0) - (if c y = i then 1 else 0)) ∧ costO d (passTo O pix c y) m = costO d O m + sumN (fun t => d (pix t) (c t) - d (pix t) (c (t + 1))) y := by
  intro y
  induction y with
  | zero => intro _; exact ⟨hO, fun _ _ => rfl, fun i => by simp only [passTo]; omega, by simp [passTo, sumN]⟩
  | succ y ih =>
    intro hy
    obtain ⟨i1, i2, i3, i4⟩ := ih (by omega)
    obtain ⟨p1, p2⟩ := hp y (by omega)
    have hcur : passTo O pix c y (pix y) = c (y + 1) := by
      rw [i2 (pix y) (fun t ht e => ?_), p2]
      have h1 := (hp t (by omega)).2
      rw [e, p2] at h1
      by_cases e2 : y + 1 = len
      · rw [e2, hback] at h1
        exact hdist 0 (t + 1) (by omega) (by omega) h1
      · exact hdist (t + 1) (y + 1) (by omega) (by omega) h1.symm
    simp only [passTo]
    refine ⟨fun k hk => ?_, fun k hk => ?_, fun i => ?_, ?_⟩
    · by_cases e : k = pix y
      · subst e; rw [upd_same]; exact hlt y (by omega)
      · rw [upd_ne e]; exact i1 k hk
    · rw [upd_ne (fun e => hk y (by omega) e.symm)]; exact i2 k (fun t ht => hk t (by omega))
    · rw [cntO_upd, if_pos p1, hcur, i3 i]; omega
    · rw [costO_upd, if_pos p1, hcur, i4]; simp only [sumN]; omega
/-- what an improvement is, told by the nodes of the round -/
structure ImpGo (d : Nat → Nat → Int) (O : Nat → Nat) (m n : Nat) (c pix : Nat → Nat) (len : Nat) : Prop where
  len1 : 1 ≤ len ∧ len ≤ n
  lt : ∀ y, y ≤ len → c y < n
  back : c len = c 0
  new : ∀ y, 1 ≤ y → y < len → c y ≠ c 0
  chg_ : ∀ y, y < len → ∃ mu, chg d O (c (y + 1)) (c y) m = some (pix y, mu)
  pix_ : ∀ y, y < len → pix y < m
  own : ∀ k, k < m → passTo O pix c len k < n
  cnt : ∀ i, cntO (passTo O pix c len) i m = cntO O i m
  cost : costO d (passTo O pix c len) m < costO d O m
theorem sumLn_N {α : Type} {A : Arcs α} [Inhabited α] (l : List α) : sumLn A l = sumN (fun t => A.ln (l[t]?.getD default)) l.length := by
  have key : ∀ k, k ≤ l.length → sumLn A (l.take k) = sumN (fun t => A.ln (l[t]?.getD default)) k := by
    intro k
    induction k with
    | zero => intro _; simp [sumLn, sumN]
    | succ k ih =>
      intro hk
      rw [List.take_succ_eq_append_getElem (by omega), sumLn_append, ih (by omega)]
      simp only [sumN, sumLn]
      rw [List.getElem?_eq_getElem (by omega), Option.getD_some]; omega
  have := key l.length (Nat.le_refl _)
  rwa [List.take_length] at this
theorem imp_go {d : Nat → Nat → Int} {far : Int} {O : Nat → Nat} {m n : Nat} (hn : 1 ≤ n) (hf : 0 < far) (hO : ∀ k, k < m → O k < n) (hl : 0 ≤ (impS d far O m n).last) :
    ∃ v, v < n ∧ (impS d far O m n).last = v ∧ (∀ y, y < n → ∃ s, (impS d far O m n).by_ (predK (gArcs d O m) (impS d far O m n).by_ v y) = some s) ∧ (∀ y, y ≤ n → predK (gArcs d O m) (impS d far O m n).by_ v y < n) ∧
      ∃ pix len, (∀ y, y < len → ∃ s, (impS d far O m n).by_ (predK (gArcs d O m) (impS d far O m n).by_ (predK (gArcs d O m) (impS d far O m n).by_ v n) y) = some s) ∧ ImpGo d O m n (predK (gArcs d O m) (impS d far O m n).by_ (predK (gArcs d O m) (impS d far O m n).by_ v n)) pix len := by
  have hIn := gArcs_in (d := d) (O := O) (m := m) (n := n)
  have hne : ∀ s ∈ gList d O m n, (gArcs d O m).fr s ≠ (gArcs d O m).to s := fun s hs => (gList_mem.1 hs).2.2.1
  obtain ⟨v, hv, hlast, hsome, hlt, l, hc, hlen, hneg, hin⟩ := reach_cyc (A := gArcs d O m) (far := far) hn hIn hne (first := fun _ => 0) (fun v _ => hf) (-1) hl
  obtain ⟨clk, u, t, hI, _⟩ := ninv_reach (A := gArcs d O m) (far := far) hIn hne (first := fun _ => 0) (fun v _ => hf) (-1) n
  have e : impS d far O m n = (gArcs d O m).reach far (gList d O m n) ⟨fun _ => 0, fun _ => none, -1⟩ n := rfl
  rw [← e] at hlast hsome hlt hc hI
  generalize impS d far O m n = st at *
  refine ⟨v, hv, hlast, hsome, hlt, fun y => ((chg d O (l[y]?.getD default).1 (l[y]?.getD default).2 m).getD (0, 0)).1, l.length, fun y hy => ⟨_, (hc.step y hy).1⟩, ?_⟩
  generalize hcc : predK (gArcs d O m) st.by_ (predK (gArcs d O m) st.by_ v n) = c at *
  have hc0 : c 0 < n := by rw [← hcc]; exact hlt n (Nat.le_refl _)
  have hclt : ∀ y, y ≤ l.length → c y < n := hc.lt hc0 (fun v hv s hs => (hIn s (hI.edge v hv s hs).1).1)
  have hto : ∀ y, (hy : y < l.length) → l[y].2 = c y := fun y hy => (hI.edge _ (hclt y (by omega)) _ (hc.step y hy).1).2.1
  have hfr : ∀ y, (hy : y < l.length) → l[y].1 = c (y + 1) := fun y hy => (hc.step y hy).2
  have hq : ∀ y, (hy : y < l.length) → ∃ q, chg d O (c (y + 1)) (c y) m = some q := fun y hy => by
    obtain ⟨_, _, _, q, hq⟩ := gList_mem.1 (hin _ (List.getElem_mem hy))
    rw [hfr y hy, hto y hy] at hq
    exact ⟨q, hq⟩
  have hpix : ∀ y, y < l.length → ((chg d O (l[y]?.getD default).1 (l[y]?.getD default).2 m).getD (0, 0)).1 < m ∧ O ((chg d O (l[y]?.getD default).1 (l[y]?.getD default).2 m).getD (0, 0)).1 = c (y + 1) := fun y hy => by
    obtain ⟨q, hq⟩ := hq y hy
    rw [List.getElem?_eq_getElem hy, Option.getD_some, hfr y hy, hto y hy, hq]
    obtain ⟨h1, h2, _⟩ := chg_some hq
    exact ⟨h1, h2⟩
  obtain ⟨a1, a2, a3, a4⟩ := pass_all (d := d) (O := O) (m := m) (n := n) (c := c) (len := l.length) hclt hc.back hc.dist hpix hO l.length (Nat.le_refl _)
  refine ⟨⟨hc.len, hlen⟩, hclt, hc.back, fun y h1 h2 e => hc.dist 0 y (by omega) h2 e.symm, fun y hy => ?_, fun y hy => (hpix y hy).1, a1, fun i => ?_, ?_⟩
  · obtain ⟨q, hq⟩ := hq y hy
    refine ⟨q.2, ?_⟩
    rw [List.getElem?_eq_getElem hy, Option.getD_some, hfr y hy, hto y hy, hq]; rfl
  · rw [a3 i, hc.back]; omega
  · rw [a4]
    rw [sumLn_N] at hneg
    have : sumN (fun t => d ((chg d O (l[t]?.getD default).1 (l[t]?.getD default).2 m).getD (0, 0)).1 (c t) - d ((chg d O (l[t]?.getD default).1 (l[t]?.getD default).2 m).getD (0, 0)).1 (c (t + 1))) l.length = sumN (fun t => (gArcs d O m).ln (l[t]?.getD default)) l.length := sumN_congr fun y hy => by
      obtain ⟨q, hq⟩ := hq y hy
      simp only [gArcs]
      rw [List.getElem?_eq_getElem hy, Option.getD_some, hfr y hy, hto y hy, hq]
      obtain ⟨_, _, h3, _⟩ := chg_some hq
      rw [Option.getD_some, h3]
    exact (fun (x y z : Int) (h1 : z < 0) (h2 : y = z) => (by omega : x + y < x)) _ _ _ hneg this
theorem costO_nonneg {d : Nat → Nat → Int} {O : Nat → Nat} : ∀ {m : Nat}, (∀ k, k < m → 0 ≤ d k (O k)) → 0 ≤ costO d O m
  | 0, _ => Int.le_refl _
  | m + 1, h => by
    have := costO_nonneg (m := m) (fun k hk => h k (by omega))
    have := h m (by omega)
    simp only [costO]; omega
end Go.Proofs.Ytodlbgncdggimaa
