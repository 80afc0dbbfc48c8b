/- Plain words of labels along arcs: what rounds of relaxing do. No program in sight. -/
import Derived.Test.YtbejgbflipoboaaRecs
namespace Go.Proofs.Ytbejgbflipoboaa

structure Arcs (α : Type) where
  fr : α → Nat
  to : α → Nat
  ln : α → Int
structure Lb (α : Type) where
  at_ : Nat → Int
  by_ : Nat → Option α
  last : Int
def upd {β : Type} (f : Nat → β) (i : Nat) (v : β) : Nat → β := fun j => if j = i then v else f j
theorem upd_same {β : Type} (f : Nat → β) (i : Nat) (v : β) : upd f i v i = v := by simp [upd]
theorem upd_ne {β : Type} {f : Nat → β} {i j : Nat} {v : β} (h : j ≠ i) : upd f i v j = f j := by simp [upd, h]
def Arcs.Cond {α : Type} (A : Arcs α) (far : Int) (st : Lb α) (s : α) : Prop := st.at_ (A.fr s) < far ∧ st.at_ (A.fr s) + A.ln s < st.at_ (A.to s)
instance {α : Type} (A : Arcs α) (far : Int) (st : Lb α) (s : α) : Decidable (A.Cond far st s) := by unfold Arcs.Cond; exact inferInstance
def Arcs.put {α : Type} (A : Arcs α) (st : Lb α) (s : α) : Lb α := ⟨upd st.at_ (A.to s) (st.at_ (A.fr s) + A.ln s), upd st.by_ (A.to s) (some s), A.to s⟩
def Arcs.relax {α : Type} (A : Arcs α) (far : Int) (st : Lb α) (s : α) : Lb α := if A.Cond far st s then A.put st s else st
def Arcs.round {α : Type} (A : Arcs α) (far : Int) (L : List α) (st : Lb α) : Lb α := L.foldl (A.relax far) { st with last := -1 }
def Arcs.reach {α : Type} (A : Arcs α) (far : Int) (L : List α) (st : Lb α) : Nat → Lb α
  | 0 => st
  | n + 1 => A.round far L (A.reach far L st n)
def Arcs.In {α : Type} (A : Arcs α) (N : Nat) (L : List α) : Prop := ∀ s ∈ L, A.fr s < N ∧ A.to s < N
def Arcs.Pot {α : Type} (A : Arcs α) (L : List α) (p : Nat → Int) : Prop := ∀ s ∈ L, p (A.to s) ≤ A.ln s + p (A.fr s)
def Arcs.Sat {α : Type} (A : Arcs α) (far : Int) (L : List α) (at_ : Nat → Int) : Prop := ∀ s ∈ L, at_ (A.fr s) < far → at_ (A.to s) ≤ at_ (A.fr s) + A.ln s
section
variable {α : Type} {A : Arcs α} {far : Int}
theorem fold_inv {L : List α} (I : Lb α → Prop) (h : ∀ st s, s ∈ L → I st → I (A.relax far st s)) : ∀ {st}, I st → I (L.foldl (A.relax far) st) := by
  induction L with
  | nil => intro st h1; exact h1
  | cons s l ih =>
    intro st h1
    rw [List.foldl_cons]
    exact ih (fun st t ht => h st t (List.mem_cons_of_mem _ ht)) (h st s List.mem_cons_self h1)
theorem fold_done {L : List α} (I : Lb α → Prop) (D : α → Lb α → Prop) (h : ∀ st s, s ∈ L → I st → I (A.relax far st s) ∧ D s (A.relax far st s)) (h2 : ∀ st s t, s ∈ L → t ∈ L → I st → D t st → D t (A.relax far st s)) :
    ∀ {st}, I st → I (L.foldl (A.relax far) st) ∧ ∀ s ∈ L, D s (L.foldl (A.relax far) st) := by
  have key : ∀ (l done : List α), (∀ s ∈ l, s ∈ L) → (∀ s ∈ done, s ∈ L) → ∀ st, I st → (∀ s ∈ done, D s st) → I (l.foldl (A.relax far) st) ∧ ∀ s, s ∈ done ∨ s ∈ l → D s (l.foldl (A.relax far) st) := by
    intro l
    induction l with
    | nil => intro done _ _ st h3 h4; exact ⟨h3, fun s hs => by rcases hs with hs | hs; exact h4 s hs; simp at hs⟩
    | cons s l ih =>
      intro done hl hd st h3 h4
      have hs := hl s List.mem_cons_self
      obtain ⟨h5, h6⟩ := h st s hs h3
      obtain ⟨h7, h8⟩ := ih (s :: done) (fun t ht => hl t (List.mem_cons_of_mem _ ht)) (fun t ht => by
        rcases List.mem_cons.1 ht with rfl | ht
        · exact hs
        · exact hd t ht) (A.relax far st s) h5 (fun t ht => by
        rcases List.mem_cons.1 ht with rfl | ht
        · exact h6
        · exact h2 st s t hs (hd t ht) h3 (h4 t ht))
      refine ⟨h7, fun t ht => h8 t ?_⟩
      rcases ht with ht | ht
      · exact .inl (List.mem_cons_of_mem _ ht)
      · rcases List.mem_cons.1 ht with rfl | ht
        · exact .inl List.mem_cons_self
        · exact .inr ht
  intro st h3
  obtain ⟨h4, h5⟩ := key L [] (fun _ h => h) (fun s hs => by simp at hs) st h3 (fun s hs => by simp at hs)
  exact ⟨h4, fun s hs => h5 s (.inr hs)⟩
theorem relax_le (st : Lb α) (s : α) (v : Nat) : (A.relax far st s).at_ v ≤ st.at_ v := by
  unfold Arcs.relax
  split
  · rename_i h
    simp only [Arcs.put, upd]
    split
    · rename_i e; subst e; have := h.2; omega
    · exact Int.le_refl _
  · exact Int.le_refl _
theorem fold_le (L : List α) (st : Lb α) (v : Nat) : (L.foldl (A.relax far) st).at_ v ≤ st.at_ v :=
  fold_inv (I := fun t => t.at_ v ≤ st.at_ v) (fun t s _ h => Int.le_trans (relax_le t s v) h) (Int.le_refl _)
theorem reach_le (L : List α) (st : Lb α) (v : Nat) : ∀ k, (A.reach far L st k).at_ v ≤ st.at_ v
  | 0 => Int.le_refl _
  | k + 1 => Int.le_trans (fold_le (far := far) (A := A) L { A.reach far L st k with last := -1 } v) (reach_le L st v k)
/-! a round that changes nothing -/
theorem relax_idle {st : Lb α} {s : α} (h : ¬ A.Cond far st s) : A.relax far st s = st := by unfold Arcs.relax; rw [if_neg h]
theorem fold_idle : ∀ {L : List α} {st : Lb α}, (∀ s ∈ L, ¬ A.Cond far st s) → L.foldl (A.relax far) st = st
  | [], _, _ => rfl
  | s :: l, st, h => by rw [List.foldl_cons, relax_idle (h s List.mem_cons_self)]; exact fold_idle (fun t ht => h t (List.mem_cons_of_mem _ ht))
theorem sat_idle {L : List α} {st : Lb α} (h : A.Sat far L st.at_) : A.round far L st = { st with last := -1 } := fold_idle fun s hs hc => by
  have h1 := hc.1
  have h2 := hc.2
  have := h s hs h1
  simp only at h2
  omega
theorem fold_last : ∀ {L : List α} {st : Lb α}, (L.foldl (A.relax far) st).last < 0 → st.last < 0 ∧ ∀ s ∈ L, ¬ A.Cond far st s
  | [], _, h => ⟨h, fun s hs => by simp at hs⟩
  | s :: l, st, h => by
    rw [List.foldl_cons] at h
    obtain ⟨h1, h2⟩ := fold_last h
    by_cases hc : A.Cond far st s
    · unfold Arcs.relax at h1
      rw [if_pos hc] at h1
      simp only [Arcs.put] at h1
      omega
    · rw [relax_idle hc] at h1 h2
      refine ⟨h1, fun t ht => ?_⟩
      rcases List.mem_cons.1 ht with rfl | ht
      · exact hc
      · exact h2 t ht
theorem last_sat {L : List α} {st : Lb α} (h : (A.round far L st).last < 0) : A.Sat far L st.at_ ∧ A.round far L st = { st with last := -1 } := by
  have h1 := (fold_last h).2
  refine ⟨fun s hs hf => ?_, fold_idle h1⟩
  have := h1 s hs
  unfold Arcs.Cond at this
  simp only [hf, true_and] at this
  omega
theorem sat_last {L : List α} {st : Lb α} (h : A.Sat far L st.at_) : (A.round far L st).last = -1 := by rw [sat_idle h]
/-! rounds end where there are prices -/
theorem range_len {N : Nat} {S : List Nat} (h1 : S.Nodup) (h2 : ∀ x ∈ S, x < N) : S.length ≤ N := by
  have := List.Nodup.length_le_of_subset h1 (l₂ := List.range N) (fun x hx => List.mem_range.2 (h2 x hx))
  rwa [List.length_range] at this
/-- the nodes S are settled -/
structure Settled (A : Arcs α) (far : Int) (N : Nat) (L : List α) (p : Nat → Int) (at_ : Nat → Int) (S : List Nat) : Prop where
  nd : S.Nodup
  lt : ∀ u ∈ S, u < N ∧ at_ u < far
  out : ∀ s ∈ L, A.fr s ∈ S → at_ (A.to s) ≤ at_ (A.fr s) + A.ln s
  low : ∀ u ∈ S, ∀ v, v ∉ S → v < N → at_ v < far → at_ u - p u ≤ at_ v - p v
theorem least_out {N : Nat} {S : List Nat} {p at_ : Nat → Int} (h : ∃ v, v < N ∧ v ∉ S ∧ at_ v < far) : ∃ v, (v < N ∧ v ∉ S ∧ at_ v < far) ∧ ∀ u, u < N → u ∉ S → at_ u < far → at_ v - p v ≤ at_ u - p u := by
  have key : ∀ k, (∀ u, u < k → u < N → u ∉ S → ¬ at_ u < far) ∨ ∃ v, (v < N ∧ v ∉ S ∧ at_ v < far) ∧ ∀ u, u < k → u < N → u ∉ S → at_ u < far → at_ v - p v ≤ at_ u - p u := by
    intro k
    induction k with
    | zero => exact .inl (fun u hu => by omega)
    | succ k ih =>
      by_cases hk : k < N ∧ k ∉ S ∧ at_ k < far
      · rcases ih with ih | ⟨v, hv, ih⟩
        · refine .inr ⟨k, hk, fun u hu h1 h2 h3 => ?_⟩
          rcases Nat.lt_succ_iff_lt_or_eq.1 hu with hu | rfl
          · exact absurd h3 (ih u hu h1 h2)
          · exact Int.le_refl _
        · by_cases hc : at_ v - p v ≤ at_ k - p k
          · refine .inr ⟨v, hv, fun u hu h1 h2 h3 => ?_⟩
            rcases Nat.lt_succ_iff_lt_or_eq.1 hu with hu | rfl
            · exact ih u hu h1 h2 h3
            · exact hc
          · refine .inr ⟨k, hk, fun u hu h1 h2 h3 => ?_⟩
            rcases Nat.lt_succ_iff_lt_or_eq.1 hu with hu | rfl
            · have := ih u hu h1 h2 h3; omega
            · exact Int.le_refl _
      · rcases ih with ih | ⟨v, hv, ih⟩
        · refine .inl fun u hu h1 h2 h3 => ?_
          rcases Nat.lt_succ_iff_lt_or_eq.1 hu with hu | rfl
          · exact ih u hu h1 h2 h3
          · exact hk ⟨h1, h2, h3⟩
        · refine .inr ⟨v, hv, fun u hu h1 h2 h3 => ?_⟩
          rcases Nat.lt_succ_iff_lt_or_eq.1 hu with hu | rfl
          · exact ih u hu h1 h2 h3
          · exact absurd ⟨h1, h2, h3⟩ hk
  obtain ⟨v, h1, h2, h3⟩ := h
  rcases key N with k | ⟨w, hw, k⟩
  · exact absurd h3 (k v h1 h1 h2)
  · exact ⟨w, hw, fun u hu => k u hu hu⟩
theorem settle_more {N : Nat} {L : List α} {p : Nat → Int} (hL : A.In N L) (hp : A.Pot L p) {st : Lb α} {S : List Nat} (h : Settled A far N L p st.at_ S) (hv : ∃ v, v < N ∧ v ∉ S ∧ st.at_ v < far) : ∃ v, Settled A far N L p (A.round far L st).at_ (v :: S) := by
  obtain ⟨v, ⟨v1, v2, v3⟩, v4⟩ := least_out (p := p) hv
  have hvS : ∀ u ∈ S, st.at_ u - p u ≤ st.at_ v - p v := fun u hu => h.low u hu v v2 v1 v3
  obtain ⟨⟨i1, i2, i3⟩, hD⟩ := fold_done (A := A) (far := far) (L := L)
    (I := fun t => (∀ u ∈ v :: S, t.at_ u = st.at_ u) ∧ (∀ u, u < N → u ∉ S → t.at_ u < far → st.at_ v - p v ≤ t.at_ u - p u) ∧ (∀ u, t.at_ u ≤ st.at_ u))
    (D := fun s t => A.fr s = v → t.at_ (A.to s) ≤ t.at_ v + A.ln s)
    (fun t s hs hI => by
      obtain ⟨j1, j2, j3⟩ := hI
      have hs1 := hL s hs
      have hs2 := hp s hs
      by_cases hc : A.Cond far t s
      · have c1 := hc.1
        have c2 := hc.2
        have hnot : A.fr s ∉ S := fun hm => by
          have q1 := j1 _ (List.mem_cons_of_mem _ hm)
          have q2 := h.out s hs hm
          have q3 := j3 (A.to s)
          -- labels outside only fall; the arc was met and stays met
          by_cases hm2 : A.to s ∈ v :: S
          · have := j1 _ hm2; omega
          · have hm3 : A.to s ∉ S := fun hh => hm2 (List.mem_cons_of_mem _ hh)
            omega
        have hlow := j2 _ hs1.1 hnot c1
        have hto : A.to s ∉ v :: S := fun hm => by
          have q1 := j1 _ hm
          rcases List.mem_cons.1 hm with e | hm
          · rw [e] at hs2 q1 c2
            omega
          · have := hvS _ hm
            omega
        have hr : A.relax far t s = A.put t s := by unfold Arcs.relax; rw [if_pos hc]
        rw [hr]
        refine ⟨⟨fun u hu => ?_, fun u hu h1 h2 => ?_, fun u => ?_⟩, fun he => ?_⟩
        · simp only [Arcs.put]
          rw [upd_ne (fun e => hto (by rw [← e]; exact hu))]
          exact j1 u hu
        · simp only [Arcs.put, upd] at h2 ⊢
          by_cases e : u = A.to s
          · rw [if_pos e]; subst e; omega
          · rw [if_neg e] at h2 ⊢; exact j2 u hu h1 h2
        · simp only [Arcs.put, upd]
          split
          · rename_i e; subst e; have := j3 (A.to s); omega
          · exact j3 u
        · simp only [Arcs.put]
          have hne : v ≠ A.to s := fun e => hto (by rw [← e]; exact List.mem_cons_self)
          rw [upd_same, upd_ne hne, he]
          exact Int.le_refl _
      · rw [relax_idle hc]
        refine ⟨⟨j1, j2, j3⟩, fun he => ?_⟩
        have := j1 v List.mem_cons_self
        unfold Arcs.Cond at hc
        rw [he, this] at hc
        rw [this]
        omega)
    (fun t s r hs hr hI hd he => by
      obtain ⟨j1, j2, j3⟩ := hI
      have q := hd he
      have h1 := relax_le (A := A) (far := far) t s (A.to r)
      -- v keeps its label
      by_cases hc : A.Cond far t s
      · have c1 := hc.1
        have c2 := hc.2
        have hs1 := hL s hs
        have hs2 := hp s hs
        have hnot : A.fr s ∉ S := fun hm => by
          have q1 := j1 _ (List.mem_cons_of_mem _ hm)
          have q2 := h.out s hs hm
          have q3 := j3 (A.to s)
          by_cases hm2 : A.to s ∈ v :: S
          · have := j1 _ hm2; omega
          · omega
        have hlow := j2 _ hs1.1 hnot c1
        have hto : A.to s ≠ v := fun e => by
          have q1 := j1 v List.mem_cons_self
          rw [e] at hs2 c2
          omega
        have e2 : (A.relax far t s).at_ v = t.at_ v := by
          unfold Arcs.relax; rw [if_pos hc]; simp only [Arcs.put]; exact upd_ne (fun e => hto e.symm)
        rw [e2]
        omega
      · rw [relax_idle hc]; exact q)
    (st := { st with last := -1 }) ⟨fun u _ => rfl, fun u hu h1 h2 => v4 u hu h1 h2, fun u => Int.le_refl _⟩
  refine ⟨v, ⟨List.nodup_cons.2 ⟨v2, h.nd⟩, fun u hu => ?_, fun s hs hm => ?_, fun u hu w hw hwN hwf => ?_⟩⟩
  · have := i1 u hu
    unfold Arcs.round
    rw [this]
    rcases List.mem_cons.1 hu with rfl | hu
    · exact ⟨v1, v3⟩
    · exact h.lt u hu
  · unfold Arcs.round
    rcases List.mem_cons.1 hm with e | hm
    · have := hD s hs e; rw [e]; exact this
    · have q1 := i1 _ (List.mem_cons_of_mem _ hm)
      have q2 := h.out s hs hm
      have q3 := i3 (A.to s)
      rw [q1]
      omega
  · unfold Arcs.round at hwf ⊢
    have q1 := i1 u hu
    have q2 := i2 w hwN (fun hh => hw (List.mem_cons_of_mem _ hh)) hwf
    rw [q1]
    rcases List.mem_cons.1 hu with rfl | hu
    · exact q2
    · have := hvS u hu; omega
theorem settle_all {N : Nat} {L : List α} {p : Nat → Int} (hL : A.In N L) (hp : A.Pot L p) (st : Lb α) : ∀ k, A.Sat far L (A.reach far L st k).at_ ∨ ∃ S, S.length = k ∧ Settled A far N L p (A.reach far L st k).at_ S
  | 0 => .inr ⟨[], rfl, List.nodup_nil, fun u hu => by simp at hu, fun s _ hm => by simp at hm, fun u hu => by simp at hu⟩
  | k + 1 => by
    rcases settle_all hL hp st k with h | ⟨S, hl, h⟩
    · refine .inl ?_
      show A.Sat far L (A.round far L (A.reach far L st k)).at_
      rw [sat_idle h]; exact h
    · by_cases hv : ∃ v, v < N ∧ v ∉ S ∧ (A.reach far L st k).at_ v < far
      · obtain ⟨v, hS⟩ := settle_more hL hp h hv
        exact .inr ⟨v :: S, by simp [hl], hS⟩
      · refine .inl ?_
        have hsat : A.Sat far L (A.reach far L st k).at_ := fun s hs hf => by
          have h1 := hL s hs
          have h2 : A.fr s ∈ S := Classical.byContradiction fun hn => hv ⟨A.fr s, h1.1, hn, hf⟩
          exact h.out s hs h2
        show A.Sat far L (A.round far L (A.reach far L st k)).at_
        rw [sat_idle hsat]; exact hsat
/-- with prices, all is reached in one round less than there are nodes -/
theorem reach_sat {N : Nat} {L : List α} {p : Nat → Int} (hL : A.In (N + 1) L) (hp : A.Pot L p) (st : Lb α) : A.Sat far L (A.reach far L st N).at_ := by
  rcases settle_all hL hp st N with h | ⟨S, hl, h⟩
  · exact h
  · intro s hs hf
    have h1 := hL s hs
    by_cases hm : A.fr s ∈ S
    · exact h.out s hs hm
    · by_cases hm2 : A.to s ∈ S
      · have := h.low _ hm2 _ hm h1.1 hf
        have := hp s hs
        omega
      · by_cases e : A.fr s = A.to s
        · have h2 := hp s hs
          rw [e] at h2 hf ⊢
          omega
        · have := range_len (N := N + 1) (S := A.fr s :: A.to s :: S) (by
            rw [List.nodup_cons, List.nodup_cons]
            refine ⟨fun hh => ?_, hm2, h.nd⟩
            rcases List.mem_cons.1 hh with hh | hh
            · exact e hh
            · exact hm hh) (fun x hx => by
            rcases List.mem_cons.1 hx with rfl | hx
            · exact h1.1
            · rcases List.mem_cons.1 hx with rfl | hx
              · exact h1.2
              · exact (h.lt x hx).1)
          simp at this
          omega
theorem reach_sat' {N : Nat} {L : List α} {p : Nat → Int} (hL : A.In N L) (hp : A.Pot L p) (st : Lb α) : A.Sat far L (A.reach far L st N).at_ := by
  cases N with
  | zero => intro s hs; have := hL s hs; omega
  | succ n =>
    have h := reach_sat (far := far) hL hp st
    show A.Sat far L (A.round far L (A.reach far L st n)).at_
    rw [sat_idle h]; exact h
end
end Go.Proofs.Ytbejgbflipoboaa
