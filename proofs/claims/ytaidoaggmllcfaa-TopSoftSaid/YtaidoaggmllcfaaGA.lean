/- Plain words and general laws, merged: GA GB GC GD TA TB TC TD. -/
import Derived.Test.YtaidoaggmllcfaaRecs
import Derived.Test.YtaidoaggmllcfaaTab
/- Plain words of labels along arcs: what rounds of relaxing do. No program in sight. -/
namespace Go.Proofs.Ytaidoaggmllcfaa

structure Arcs (α : Type) where
  fr : α → Nat
  to : α → Nat
  ln : α → Int
structure Lb (α : Type) where
  at_ : Nat → Int
  by_ : Nat → Option α
  last : Int
def upd {β : Type} (f : Nat → β) (i : Nat) (v : β) : Nat → β := fun j => if j = i then v else f j
theorem upd_same {β : Type} (f : Nat → β) (i : Nat) (v : β) : upd f i v i = v := by simp [upd]
theorem upd_ne {β : Type} {f : Nat → β} {i j : Nat} {v : β} (h : j ≠ i) : upd f i v j = f j := by simp [upd, h]
def Arcs.Cond {α : Type} (A : Arcs α) (far : Int) (st : Lb α) (s : α) : Prop := st.at_ (A.fr s) < far ∧ st.at_ (A.fr s) + A.ln s < st.at_ (A.to s)
instance {α : Type} (A : Arcs α) (far : Int) (st : Lb α) (s : α) : Decidable (A.Cond far st s) := by unfold Arcs.Cond; exact inferInstance
def Arcs.put {α : Type} (A : Arcs α) (st : Lb α) (s : α) : Lb α := ⟨upd st.at_ (A.to s) (st.at_ (A.fr s) + A.ln s), upd st.by_ (A.to s) (some s), A.to s⟩
def Arcs.relax {α : Type} (A : Arcs α) (far : Int) (st : Lb α) (s : α) : Lb α := if A.Cond far st s then A.put st s else st
def Arcs.round {α : Type} (A : Arcs α) (far : Int) (L : List α) (st : Lb α) : Lb α := L.foldl (A.relax far) { st with last := -1 }
def Arcs.reach {α : Type} (A : Arcs α) (far : Int) (L : List α) (st : Lb α) : Nat → Lb α
  | 0 => st
  | n + 1 => A.round far L (A.reach far L st n)
def Arcs.In {α : Type} (A : Arcs α) (N : Nat) (L : List α) : Prop := ∀ s ∈ L, A.fr s < N ∧ A.to s < N
def Arcs.Pot {α : Type} (A : Arcs α) (L : List α) (p : Nat → Int) : Prop := ∀ s ∈ L, p (A.to s) ≤ A.ln s + p (A.fr s)
def Arcs.Sat {α : Type} (A : Arcs α) (far : Int) (L : List α) (at_ : Nat → Int) : Prop := ∀ s ∈ L, at_ (A.fr s) < far → at_ (A.to s) ≤ at_ (A.fr s) + A.ln s
section
variable {α : Type} {A : Arcs α} {far : Int}
theorem fold_inv {L : List α} (I : Lb α → Prop) (h : ∀ st s, s ∈ L → I st → I (A.relax far st s)) : ∀ {st}, I st → I (L.foldl (A.relax far) st) := by
  induction L with
  | nil => intro st h1; exact h1
  | cons s l ih =>
    intro st h1
    rw [List.foldl_cons]
    exact ih (fun st t ht => h st t (List.mem_cons_of_mem _ ht)) (h st s List.mem_cons_self h1)
theorem fold_done {L : List α} (I : Lb α → Prop) (D : α → Lb α → Prop) (h : ∀ st s, s ∈ L → I st → I (A.relax far st s) ∧ D s (A.relax far st s)) (h2 : ∀ st s t, s ∈ L → t ∈ L → I st → D t st → D t (A.relax far st s)) :
    ∀ {st}, I st → I (L.foldl (A.relax far) st) ∧ ∀ s ∈ L, D s (L.foldl (A.relax far) st) := by
  have key : ∀ (l done : List α), (∀ s ∈ l, s ∈ L) → (∀ s ∈ done, s ∈ L) → ∀ st, I st → (∀ s ∈ done, D s st) → I (l.foldl (A.relax far) st) ∧ ∀ s, s ∈ done ∨ s ∈ l → D s (l.foldl (A.relax far) st) := by
    intro l
    induction l with
    | nil => intro done _ _ st h3 h4; exact ⟨h3, fun s hs => by rcases hs with hs | hs; exact h4 s hs; simp at hs⟩
    | cons s l ih =>
      intro done hl hd st h3 h4
      have hs := hl s List.mem_cons_self
      obtain ⟨h5, h6⟩ := h st s hs h3
      obtain ⟨h7, h8⟩ := ih (s :: done) (fun t ht => hl t (List.mem_cons_of_mem _ ht)) (fun t ht => by
        rcases List.mem_cons.1 ht with rfl | ht
        · exact hs
        · exact hd t ht) (A.relax far st s) h5 (fun t ht => by
        rcases List.mem_cons.1 ht with rfl | ht
        · exact h6
        · exact h2 st s t hs (hd t ht) h3 (h4 t ht))
      refine ⟨h7, fun t ht => h8 t ?_⟩
      rcases ht with ht | ht
      · exact .inl (List.mem_cons_of_mem _ ht)
      · rcases List.mem_cons.1 ht with rfl | ht
        · exact .inl List.mem_cons_self
        · exact .inr ht
  intro st h3
  obtain ⟨h4, h5⟩ := key L [] (fun _ h => h) (fun s hs => by simp at hs) st h3 (fun s hs => by simp at hs)
  exact ⟨h4, fun s hs => h5 s (.inr hs)⟩
theorem relax_le (st : Lb α) (s : α) (v : Nat) : (A.relax far st s).at_ v ≤ st.at_ v := by
  unfold Arcs.relax
  split
  · rename_i h
    simp only [Arcs.put, upd]
    split
    · rename_i e; subst e; have := h.2; omega
    · exact Int.le_refl _
  · exact Int.le_refl _
theorem fold_le (L : List α) (st : Lb α) (v : Nat) : (L.foldl (A.relax far) st).at_ v ≤ st.at_ v :=
  fold_inv (I := fun t => t.at_ v ≤ st.at_ v) (fun t s _ h => Int.le_trans (relax_le t s v) h) (Int.le_refl _)
theorem reach_le (L : List α) (st : Lb α) (v : Nat) : ∀ k, (A.reach far L st k).at_ v ≤ st.at_ v
  | 0 => Int.le_refl _
  | k + 1 => Int.le_trans (fold_le (far := far) (A := A) L { A.reach far L st k with last := -1 } v) (reach_le L st v k)
/-! a round that changes nothing -/
theorem relax_idle {st : Lb α} {s : α} (h : ¬ A.Cond far st s) : A.relax far st s = st := by unfold Arcs.relax; rw [if_neg h]
theorem fold_idle : ∀ {L : List α} {st : Lb α}, (∀ s ∈ L, ¬ A.Cond far st s) → L.foldl (A.relax far) st = st
  | [], _, _ => rfl
  | s :: l, st, h => by rw [List.foldl_cons, relax_idle (h s List.mem_cons_self)]; exact fold_idle (fun t ht => h t (List.mem_cons_of_mem _ ht))
theorem sat_idle {L : List α} {st : Lb α} (h : A.Sat far L st.at_) : A.round far L st = { st with last := -1 } := fold_idle fun s hs hc => by
  have h1 := hc.1
  have h2 := hc.2
  have := h s hs h1
  simp only at h2
  omega
theorem fold_last : ∀ {L : List α} {st : Lb α}, (L.foldl (A.relax far) st).last < 0 → st.last < 0 ∧ ∀ s ∈ L, ¬ A.Cond far st s
  | [], _, h => ⟨h, fun s hs => by simp at hs⟩
  | s :: l, st, h => by
    rw [List.foldl_cons] at h
    obtain ⟨h1, h2⟩ := fold_last h
    by_cases hc : A.Cond far st s
    · unfold Arcs.relax at h1
      rw [if_pos hc] at h1
      simp only [Arcs.put] at h1
      omega
    · rw [relax_idle hc] at h1 h2
      refine ⟨h1, fun t ht => ?_⟩
      rcases List.mem_cons.1 ht with rfl | ht
      · exact hc
      · exact h2 t ht
theorem last_sat {L : List α} {st : Lb α} (h : (A.round far L st).last < 0) : A.Sat far L st.at_ ∧ A.round far L st = { st with last := -1 } := by
  have h1 := (fold_last h).2
  refine ⟨fun s hs hf => ?_, fold_idle h1⟩
  have := h1 s hs
  unfold Arcs.Cond at this
  simp only [hf, true_and] at this
  omega
theorem sat_last {L : List α} {st : Lb α} (h : A.Sat far L st.at_) : (A.round far L st).last = -1 := by rw [sat_idle h]
/-! rounds end where there are prices -/
theorem range_len {N : Nat} {S : List Nat} (h1 : S.Nodup) (h2 : ∀ x ∈ S, x < N) : S.length ≤ N := by
  have := List.Nodup.length_le_of_subset h1 (l₂ := List.range N) (fun x hx => List.mem_range.2 (h2 x hx))
  rwa [List.length_range] at this
/-- the nodes S are settled -/
structure Settled (A : Arcs α) (far : Int) (N : Nat) (L : List α) (p : Nat → Int) (at_ : Nat → Int) (S : List Nat) : Prop where
  nd : S.Nodup
  lt : ∀ u ∈ S, u < N ∧ at_ u < far
  out : ∀ s ∈ L, A.fr s ∈ S → at_ (A.to s) ≤ at_ (A.fr s) + A.ln s
  low : ∀ u ∈ S, ∀ v, v ∉ S → v < N → at_ v < far → at_ u - p u ≤ at_ v - p v
theorem least_out {N : Nat} {S : List Nat} {p at_ : Nat → Int} (h : ∃ v, v < N ∧ v ∉ S ∧ at_ v < far) : ∃ v, (v < N ∧ v ∉ S ∧ at_ v < far) ∧ ∀ u, u < N → u ∉ S → at_ u < far → at_ v - p v ≤ at_ u - p u := by
  have key : ∀ k, (∀ u, u < k → u < N → u ∉ S → ¬ at_ u < far) ∨ ∃ v, (v < N ∧ v ∉ S ∧ at_ v < far) ∧ ∀ u, u < k → u < N → u ∉ S → at_ u < far → at_ v - p v ≤ at_ u - p u := by
    intro k
    induction k with
    | zero => exact .inl (fun u hu => by omega)
    | succ k ih =>
      by_cases hk : k < N ∧ k ∉ S ∧ at_ k < far
      · rcases ih with ih | ⟨v, hv, ih⟩
        · refine .inr ⟨k, hk, fun u hu h1 h2 h3 => ?_⟩
          rcases Nat.lt_succ_iff_lt_or_eq.1 hu with hu | rfl
          · exact absurd h3 (ih u hu h1 h2)
          · exact Int.le_refl _
        · by_cases hc : at_ v - p v ≤ at_ k - p k
          · refine .inr ⟨v, hv, fun u hu h1 h2 h3 => ?_⟩
            rcases Nat.lt_succ_iff_lt_or_eq.1 hu with hu | rfl
            · exact ih u hu h1 h2 h3
            · exact hc
          · refine .inr ⟨k, hk, fun u hu h1 h2 h3 => ?_⟩
            rcases Nat.lt_succ_iff_lt_or_eq.1 hu with hu | rfl
            · have := ih u hu h1 h2 h3; omega
            · exact Int.le_refl _
      · rcases ih with ih | ⟨v, hv, ih⟩
        · refine .inl fun u hu h1 h2 h3 => ?_
          rcases Nat.lt_succ_iff_lt_or_eq.1 hu with hu | rfl
          · exact ih u hu h1 h2 h3
          · exact hk ⟨h1, h2, h3⟩
        · refine .inr ⟨v, hv, fun u hu h1 h2 h3 => ?_⟩
          rcases Nat.lt_succ_iff_lt_or_eq.1 hu with hu | rfl
          · exact ih u hu h1 h2 h3
          · exact absurd ⟨h1, h2, h3⟩ hk
  obtain ⟨v, h1, h2, h3⟩ := h
  rcases key N with k | ⟨w, hw, k⟩
  · exact absurd h3 (k v h1 h1 h2)
  · exact ⟨w, hw, fun u hu => k u hu hu⟩
theorem settle_more {N : Nat} {L : List α} {p : Nat → Int} (hL : A.In N L) (hp : A.Pot L p) {st : Lb α} {S : List Nat} (h : Settled A far N L p st.at_ S) (hv : ∃ v, v < N ∧ v ∉ S ∧ st.at_ v < far) : ∃ v, Settled A far N L p (A.round far L st).at_ (v :: S) := by
  obtain ⟨v, ⟨v1, v2, v3⟩, v4⟩ := least_out (p := p) hv
  have hvS : ∀ u ∈ S, st.at_ u - p u ≤ st.at_ v - p v := fun u hu => h.low u hu v v2 v1 v3
  obtain ⟨⟨i1, i2, i3⟩, hD⟩ := fold_done (A := A) (far := far) (L := L)
    (I := fun t => (∀ u ∈ v :: S, t.at_ u = st.at_ u) ∧ (∀ u, u < N → u ∉ S → t.at_ u < far → st.at_ v - p v ≤ t.at_ u - p u) ∧ (∀ u, t.at_ u ≤ st.at_ u))
    (D := fun s t => A.fr s = v → t.at_ (A.to s) ≤ t.at_ v + A.ln s)
    (fun t s hs hI => by
      obtain ⟨j1, j2, j3⟩ := hI
      have hs1 := hL s hs
      have hs2 := hp s hs
      by_cases hc : A.Cond far t s
      · have c1 := hc.1
        have c2 := hc.2
        have hnot : A.fr s ∉ S := fun hm => by
          have q1 := j1 _ (List.mem_cons_of_mem _ hm)
          have q2 := h.out s hs hm
          have q3 := j3 (A.to s)
          -- labels outside only fall; the arc was met and stays met
          by_cases hm2 : A.to s ∈ v :: S
          · have := j1 _ hm2; omega
          · have hm3 : A.to s ∉ S := fun hh => hm2 (List.mem_cons_of_mem _ hh)
            omega
        have hlow := j2 _ hs1.1 hnot c1
        have hto : A.to s ∉ v :: S := fun hm => by
          have q1 := j1 _ hm
          rcases List.mem_cons.1 hm with e | hm
          · rw [e] at hs2 q1 c2
            omega
          · have := hvS _ hm
            omega
        have hr : A.relax far t s = A.put t s := by unfold Arcs.relax; rw [if_pos hc]
        rw [hr]
        refine ⟨⟨fun u hu => ?_, fun u hu h1 h2 => ?_, fun u => ?_⟩, fun he => ?_⟩
        · simp only [Arcs.put]
          rw [upd_ne (fun e => hto (by rw [← e]; exact hu))]
          exact j1 u hu
        · simp only [Arcs.put, upd] at h2 ⊢
          by_cases e : u = A.to s
          · rw [if_pos e]; subst e; omega
          · rw [if_neg e] at h2 ⊢; exact j2 u hu h1 h2
        · simp only [Arcs.put, upd]
          split
          · rename_i e; subst e; have := j3 (A.to s); omega
          · exact j3 u
        · simp only [Arcs.put]
          have hne : v ≠ A.to s := fun e => hto (by rw [← e]; exact List.mem_cons_self)
          rw [upd_same, upd_ne hne, he]
          exact Int.le_refl _
      · rw [relax_idle hc]
        refine ⟨⟨j1, j2, j3⟩, fun he => ?_⟩
        have := j1 v List.mem_cons_self
        unfold Arcs.Cond at hc
        rw [he, this] at hc
        rw [this]
        omega)
    (fun t s r hs hr hI hd he => by
      obtain ⟨j1, j2, j3⟩ := hI
      have q := hd he
      have h1 := relax_le (A := A) (far := far) t s (A.to r)
      -- v keeps its label
      by_cases hc : A.Cond far t s
      · have c1 := hc.1
        have c2 := hc.2
        have hs1 := hL s hs
        have hs2 := hp s hs
        have hnot : A.fr s ∉ S := fun hm => by
          have q1 := j1 _ (List.mem_cons_of_mem _ hm)
          have q2 := h.out s hs hm
          have q3 := j3 (A.to s)
          by_cases hm2 : A.to s ∈ v :: S
          · have := j1 _ hm2; omega
          · omega
        have hlow := j2 _ hs1.1 hnot c1
        have hto : A.to s ≠ v := fun e => by
          have q1 := j1 v List.mem_cons_self
          rw [e] at hs2 c2
          omega
        have e2 : (A.relax far t s).at_ v = t.at_ v := by
          unfold Arcs.relax; rw [if_pos hc]; simp only [Arcs.put]; exact upd_ne (fun e => hto e.symm)
        rw [e2]
        omega
      · rw [relax_idle hc]; exact q)
    (st := { st with last := -1 }) ⟨fun u _ => rfl, fun u hu h1 h2 => v4 u hu h1 h2, fun u => Int.le_refl _⟩
  refine ⟨v, ⟨List.nodup_cons.2 ⟨v2, h.nd⟩, fun u hu => ?_, fun s hs hm => ?_, fun u hu w hw hwN hwf => ?_⟩⟩
  · have := i1 u hu
    unfold Arcs.round
    rw [this]
    rcases List.mem_cons.1 hu with rfl | hu
    · exact ⟨v1, v3⟩
    · exact h.lt u hu
  · unfold Arcs.round
    rcases List.mem_cons.1 hm with e | hm
    · have := hD s hs e; rw [e]; exact this
    · have q1 := i1 _ (List.mem_cons_of_mem _ hm)
      have q2 := h.out s hs hm
      have q3 := i3 (A.to s)
      rw [q1]
      omega
  · unfold Arcs.round at hwf ⊢
    have q1 := i1 u hu
    have q2 := i2 w hwN (fun hh => hw (List.mem_cons_of_mem _ hh)) hwf
    rw [q1]
    rcases List.mem_cons.1 hu with rfl | hu
    · exact q2
    · have := hvS u hu; omega
theorem settle_all {N : Nat} {L : List α} {p : Nat → Int} (hL : A.In N L) (hp : A.Pot L p) (st : Lb α) : ∀ k, A.Sat far L (A.reach far L st k).at_ ∨ ∃ S, S.length = k ∧ Settled A far N L p (A.reach far L st k).at_ S
  | 0 => .inr ⟨[], rfl, List.nodup_nil, fun u hu => by simp at hu, fun s _ hm => by simp at hm, fun u hu => by simp at hu⟩
  | k + 1 => by
    rcases settle_all hL hp st k with h | ⟨S, hl, h⟩
    · refine .inl ?_
      show A.Sat far L (A.round far L (A.reach far L st k)).at_
      rw [sat_idle h]; exact h
    · by_cases hv : ∃ v, v < N ∧ v ∉ S ∧ (A.reach far L st k).at_ v < far
      · obtain ⟨v, hS⟩ := settle_more hL hp h hv
        exact .inr ⟨v :: S, by simp [hl], hS⟩
      · refine .inl ?_
        have hsat : A.Sat far L (A.reach far L st k).at_ := fun s hs hf => by
          have h1 := hL s hs
          have h2 : A.fr s ∈ S := Classical.byContradiction fun hn => hv ⟨A.fr s, h1.1, hn, hf⟩
          exact h.out s hs h2
        show A.Sat far L (A.round far L (A.reach far L st k)).at_
        rw [sat_idle hsat]; exact hsat
/-- with prices, all is reached in one round less than there are nodes -/
theorem reach_sat {N : Nat} {L : List α} {p : Nat → Int} (hL : A.In (N + 1) L) (hp : A.Pot L p) (st : Lb α) : A.Sat far L (A.reach far L st N).at_ := by
  rcases settle_all hL hp st N with h | ⟨S, hl, h⟩
  · exact h
  · intro s hs hf
    have h1 := hL s hs
    by_cases hm : A.fr s ∈ S
    · exact h.out s hs hm
    · by_cases hm2 : A.to s ∈ S
      · have := h.low _ hm2 _ hm h1.1 hf
        have := hp s hs
        omega
      · by_cases e : A.fr s = A.to s
        · have h2 := hp s hs
          rw [e] at h2 hf ⊢
          omega
        · have := range_len (N := N + 1) (S := A.fr s :: A.to s :: S) (by
            rw [List.nodup_cons, List.nodup_cons]
            refine ⟨fun hh => ?_, hm2, h.nd⟩
            rcases List.mem_cons.1 hh with hh | hh
            · exact e hh
            · exact hm hh) (fun x hx => by
            rcases List.mem_cons.1 hx with rfl | hx
            · exact h1.1
            · rcases List.mem_cons.1 hx with rfl | hx
              · exact h1.2
              · exact (h.lt x hx).1)
          simp at this
          omega
theorem reach_sat' {N : Nat} {L : List α} {p : Nat → Int} (hL : A.In N L) (hp : A.Pot L p) (st : Lb α) : A.Sat far L (A.reach far L st N).at_ := by
  cases N with
  | zero => intro s hs; have := hL s hs; omega
  | succ n =>
    have h := reach_sat (far := far) hL hp st
    show A.Sat far L (A.round far L (A.reach far L st n)).at_
    rw [sat_idle h]; exact h
end
end Go.Proofs.Ytaidoaggmllcfaa
/- Plain words of labels along arcs: the chains back, and prices made of labels. No program in sight. -/
namespace Go.Proofs.Ytaidoaggmllcfaa

/-- the chain from a node back to where it begins -/
inductive Chn {α : Type} (A : Arcs α) (b : Nat → Option α) : Nat → List α → Nat → Prop
  | nil {v : Nat} : b v = none → Chn A b v [] v
  | cons {v : Nat} {s : α} {l : List α} {r : Nat} : b v = some s → Chn A b (A.fr s) l r → Chn A b v (s :: l) r
def sumLn {α : Type} (A : Arcs α) : List α → Int
  | [] => 0
  | s :: l => A.ln s + sumLn A l
section
variable {α : Type} {A : Arcs α} {far : Int}
theorem Chn.det {b : Nat → Option α} {v : Nat} {l : List α} {r : Nat} (h : Chn A b v l r) : ∀ {l' : List α} {r' : Nat}, Chn A b v l' r' → l = l' ∧ r = r' := by
  induction h with
  | nil h1 =>
    intro l' r' h2
    cases h2 with
    | nil _ => exact ⟨rfl, rfl⟩
    | cons h3 _ => rw [h1] at h3; exact absurd h3 (by simp)
  | cons h1 _ ih =>
    intro l' r' h2
    cases h2 with
    | nil h3 => rw [h1] at h3; exact absurd h3 (by simp)
    | cons h3 h4 =>
      rw [h1] at h3
      cases h3
      obtain ⟨e1, e2⟩ := ih h4
      exact ⟨by rw [e1], e2⟩
/-- the nodes of a chain behind its first one -/
def nodesOf (A : Arcs α) (l : List α) : List Nat := l.map A.fr
theorem Chn.at_node {b : Nat → Option α} {v : Nat} {l : List α} {r : Nat} (h : Chn A b v l r) : ∀ w, w ∈ v :: nodesOf A l → ∃ l', l'.length ≤ l.length ∧ (∀ s ∈ l', s ∈ l) ∧ Chn A b w l' r := by
  induction h with
  | nil h1 =>
    intro w hw
    simp only [nodesOf, List.map_nil, List.mem_singleton] at hw
    subst hw
    exact ⟨[], Nat.le_refl _, fun s h => h, .nil h1⟩
  | @cons v s l r h1 h2 ih =>
    intro w hw
    simp only [nodesOf, List.map_cons] at hw
    rcases List.mem_cons.1 hw with rfl | hw
    · exact ⟨s :: l, Nat.le_refl _, fun _ h => h, .cons h1 h2⟩
    · obtain ⟨l', h3, h4, h5⟩ := ih w hw
      exact ⟨l', by simp; omega, fun t ht => List.mem_cons_of_mem _ (h4 t ht), h5⟩
theorem Chn.nodup {b : Nat → Option α} {v : Nat} {l : List α} {r : Nat} (h : Chn A b v l r) : (v :: nodesOf A l).Nodup := by
  induction h with
  | nil _ => simp [nodesOf]
  | @cons v s l r h1 h2 ih =>
    rw [List.nodup_cons]
    refine ⟨fun hm => ?_, ih⟩
    obtain ⟨l', h3, _, h4⟩ := h2.at_node v hm
    have := (Chn.det (.cons h1 h2) h4).1
    rw [← this] at h3
    simp at h3
    omega
theorem Chn.in_ {b : Nat → Option α} {P : Nat → Prop} {v : Nat} {l : List α} {r : Nat} (h : Chn A b v l r) (hv : P v) (hs : ∀ v s, P v → b v = some s → P (A.fr s)) : P r ∧ (∀ w ∈ v :: nodesOf A l, P w) := by
  induction h with
  | nil _ => exact ⟨hv, fun w hw => by simp [nodesOf] at hw; subst hw; exact hv⟩
  | @cons v s l r h1 h2 ih =>
    obtain ⟨h3, h4⟩ := ih (hs _ _ hv h1)
    refine ⟨h3, fun w hw => ?_⟩
    rcases List.mem_cons.1 hw with rfl | hw
    · exact hv
    · exact h4 w (by simpa [nodesOf] using hw)
theorem Chn.arcs {b : Nat → Option α} {P : Nat → Prop} {Q : α → Prop} {v : Nat} {l : List α} {r : Nat} (h : Chn A b v l r) (hv : P v) (hs : ∀ v s, P v → b v = some s → P (A.fr s) ∧ Q s) : ∀ s ∈ l, Q s := by
  induction h with
  | nil _ => intro s h; simp at h
  | @cons v s l r h1 h2 ih =>
    intro t ht
    obtain ⟨h3, h4⟩ := hs _ _ hv h1
    rcases List.mem_cons.1 ht with rfl | ht
    · exact h4
    · exact ih h3 t ht
theorem Chn.root {b : Nat → Option α} {v : Nat} {l : List α} {r : Nat} (h : Chn A b v l r) : b r = none := by
  induction h with
  | nil h => exact h
  | cons _ _ ih => exact ih
/-- what holds of labels and chains at any time -/
structure LInv (A : Arcs α) (far : Int) (N : Nat) (L : List α) (p first : Nat → Int) (st : Lb α) : Prop where
  edge : ∀ v, v < N → ∀ s, st.by_ v = some s → s ∈ L ∧ A.to s = v ∧ st.at_ (A.fr s) < far ∧ st.at_ v < far ∧ st.at_ (A.fr s) + A.ln s ≤ st.at_ v
  root : ∀ v, v < N → st.by_ v = none → st.at_ v = first v
  ends : ∀ v, v < N → ∃ l r, Chn A st.by_ v l r
theorem linv_start {N : Nat} {L : List α} {p first : Nat → Int} : LInv A far N L p first ⟨first, fun _ => none, -1⟩ := ⟨fun v _ s h => by simp at h, fun v _ _ => rfl, fun v _ => ⟨[], v, .nil rfl⟩⟩
theorem LInv.last {N : Nat} {L : List α} {p first : Nat → Int} {st : Lb α} (h : LInv A far N L p first st) (k : Int) : LInv A far N L p first { st with last := k } := ⟨h.edge, h.root, h.ends⟩
/-- labels fall along chains, told with prices -/
theorem LInv.down {N : Nat} {L : List α} {p first : Nat → Int} {st : Lb α} (h : LInv A far N L p first st) (hL : A.In N L) (hp : A.Pot L p) {v : Nat} (hv : v < N) {l : List α} {r : Nat} (hc : Chn A st.by_ v l r) : ∀ w ∈ v :: nodesOf A l, st.at_ w - p w ≤ st.at_ v - p v := by
  induction hc with
  | nil _ => intro w hw; simp [nodesOf] at hw; subst hw; exact Int.le_refl _
  | @cons v s l r h1 h2 ih =>
    obtain ⟨e1, e2, e3, e4, e5⟩ := h.edge v hv s h1
    have hs := hL s e1
    intro w hw
    rcases List.mem_cons.1 hw with rfl | hw
    · exact Int.le_refl _
    · have := ih hs.1 w (by simpa [nodesOf] using hw)
      have := hp s e1
      rw [e2] at this
      omega
theorem LInv.relax {N : Nat} {L : List α} {p first : Nat → Int} {st : Lb α} (h : LInv A far N L p first st) (hL : A.In N L) (hp : A.Pot L p) (hf : ∀ v, v < N → st.at_ v ≤ far) {s : α} (hs : s ∈ L) : LInv A far N L p first (A.relax far st s) := by
  by_cases hc : A.Cond far st s
  case neg => rw [relax_idle hc]; exact h
  case pos =>
  have c1 := hc.1
  have c2 := hc.2
  have hs1 := hL s hs
  have hs2 := hp s hs
  have hft := hf (A.to s) hs1.2
  have hne : A.fr s ≠ A.to s := fun e => by rw [e] at c2 hs2; omega
  have hr : A.relax far st s = A.put st s := by unfold Arcs.relax; rw [if_pos hc]
  rw [hr]
  have notin : ∀ {w l r}, w < N → Chn A st.by_ w l r → A.to s ∉ w :: nodesOf A l → Chn A (A.put st s).by_ w l r := by
    intro w l r hw hch
    induction hch with
    | @nil w h1 =>
      intro hn
      refine .nil ?_
      show upd st.by_ _ _ w = none
      rw [upd_ne (fun e => hn (by rw [← e]; exact List.mem_cons_self))]; exact h1
    | @cons w t l r h1 h2 ih =>
      intro hn
      obtain ⟨e1, _⟩ := h.edge w hw t h1
      refine .cons (s := t) ?_ (ih (hL t e1).1 (fun hm => hn (List.mem_cons_of_mem _ (by simpa [nodesOf] using hm))))
      show upd st.by_ _ _ w = some t
      rw [upd_ne (fun e => hn (by rw [← e]; exact List.mem_cons_self))]; exact h1
  obtain ⟨lu, ru, hcu⟩ := h.ends (A.fr s) hs1.1
  have hnu : A.to s ∉ A.fr s :: nodesOf A lu := fun hm => by
    have := h.down hL hp hs1.1 hcu _ hm
    omega
  have hto : Chn A (A.put st s).by_ (A.to s) (s :: lu) ru := .cons (by show upd st.by_ _ _ _ = _; rw [upd_same]) (notin hs1.1 hcu hnu)
  refine ⟨fun v hv t ht => ?_, fun v hv hn => ?_, fun v hv => ?_⟩
  · have ht : upd st.by_ (A.to s) (some s) v = some t := ht
    show t ∈ L ∧ A.to t = v ∧ upd st.at_ (A.to s) (st.at_ (A.fr s) + A.ln s) (A.fr t) < far ∧ upd st.at_ (A.to s) (st.at_ (A.fr s) + A.ln s) v < far ∧ upd st.at_ (A.to s) (st.at_ (A.fr s) + A.ln s) (A.fr t) + A.ln t ≤ upd st.at_ (A.to s) (st.at_ (A.fr s) + A.ln s) v
    by_cases e : v = A.to s
    · subst e
      rw [upd_same] at ht
      cases ht
      rw [upd_same, upd_ne hne]
      exact ⟨hs, rfl, c1, by omega, Int.le_refl _⟩
    · rw [upd_ne e] at ht ⊢
      obtain ⟨e1, e2, e3, e4, e5⟩ := h.edge v hv t ht
      refine ⟨e1, e2, ?_, e4, ?_⟩
      · by_cases e6 : A.fr t = A.to s
        · rw [e6, upd_same]; omega
        · rw [upd_ne e6]; exact e3
      · by_cases e6 : A.fr t = A.to s
        · rw [e6, upd_same]; rw [e6] at e5; omega
        · rw [upd_ne e6]; exact e5
  · have hn : upd st.by_ (A.to s) (some s) v = none := hn
    by_cases e : v = A.to s
    · subst e; rw [upd_same] at hn; simp at hn
    · rw [upd_ne e] at hn
      show upd st.at_ _ _ v = _
      rw [upd_ne e]; exact h.root v hv hn
  · obtain ⟨l, r, hch⟩ := h.ends v hv
    -- up to the node that is told anew
    have key : ∀ {w l r}, w < N → Chn A st.by_ w l r → ∃ l' r', Chn A (A.put st s).by_ w l' r' := by
      intro w l r hw hch
      induction hch with
      | @nil w h1 =>
        by_cases e : w = A.to s
        · subst e; exact ⟨_, _, hto⟩
        · exact ⟨[], w, .nil (by show upd st.by_ _ _ w = none; rw [upd_ne e]; exact h1)⟩
      | @cons w t l r h1 h2 ih =>
        by_cases e : w = A.to s
        · subst e; exact ⟨_, _, hto⟩
        · obtain ⟨e1, _⟩ := h.edge w hw t h1
          obtain ⟨l', r', h3⟩ := ih (hL t e1).1
          exact ⟨t :: l', r', .cons (by show upd st.by_ _ _ w = some t; rw [upd_ne e]; exact h1) h3⟩
    exact key hv hch
/-- in the program's terms: the state behind k rounds -/
theorem reach_inv {N : Nat} {L : List α} {p first : Nat → Int} (hL : A.In N L) (hp : A.Pot L p) (hf : ∀ v, v < N → first v ≤ far) {st : Lb α} (h0 : LInv A far N L p first st) (h1 : ∀ v, v < N → st.at_ v ≤ far) : ∀ k, LInv A far N L p first (A.reach far L st k) ∧ ∀ v, v < N → (A.reach far L st k).at_ v ≤ far
  | 0 => ⟨h0, h1⟩
  | k + 1 => by
    obtain ⟨h2, h3⟩ := reach_inv hL hp hf h0 h1 k
    exact fold_inv (A := A) (far := far) (I := fun t => LInv A far N L p first t ∧ ∀ v, v < N → t.at_ v ≤ far) (fun t s hs hI => ⟨hI.1.relax hL hp hI.2 hs, fun v hv => Int.le_trans (relax_le t s v) (hI.2 v hv)⟩) ⟨h2.last (-1), h3⟩
/-- what the state is when nothing changes any more -/
structure LEnd (A : Arcs α) (far : Int) (N : Nat) (L : List α) (p first : Nat → Int) (at_ : Nat → Int) (b : Nat → Option α) : Prop where
  sat : A.Sat far L at_
  edge : ∀ v, v < N → ∀ s, b v = some s → s ∈ L ∧ A.to s = v ∧ at_ (A.fr s) < far ∧ at_ v < far ∧ at_ (A.fr s) + A.ln s = at_ v
  root : ∀ v, v < N → b v = none → at_ v = first v
  ends : ∀ v, v < N → ∃ l r, Chn A b v l r
  le : ∀ v, v < N → at_ v ≤ first v
theorem reach_end {N : Nat} {L : List α} {p first : Nat → Int} (hL : A.In N L) (hp : A.Pot L p) (hf : ∀ v, v < N → first v ≤ far) (k : Int) :
    LEnd A far N L p first (A.reach far L ⟨first, fun _ => none, k⟩ N).at_ (A.reach far L ⟨first, fun _ => none, k⟩ N).by_ := by
  obtain ⟨h1, h2⟩ := reach_inv (A := A) (far := far) (p := p) (first := first) hL hp hf (st := ⟨first, fun _ => none, k⟩) (linv_start.last k) hf N
  have h3 := reach_sat' (far := far) hL hp ⟨first, fun _ => none, k⟩
  refine ⟨h3, fun v hv s hs => ?_, h1.root, h1.ends, fun v hv => reach_le _ _ v N⟩
  obtain ⟨e1, e2, e3, e4, e5⟩ := h1.edge v hv s hs
  have := h3 s e1 e3
  rw [e2] at this
  exact ⟨e1, e2, e3, e4, by omega⟩
theorem LEnd.tele {N : Nat} {L : List α} {p first at_ : Nat → Int} {b : Nat → Option α} (h : LEnd A far N L p first at_ b) (hL : A.In N L) {v : Nat} (hv : v < N) {l : List α} {r : Nat} (hc : Chn A b v l r) : at_ v = at_ r + sumLn A l ∧ r < N ∧ (∀ s ∈ l, s ∈ L) ∧ at_ r = first r ∧ (at_ v < far → at_ r < far) := by
  induction hc with
  | nil h1 => exact ⟨by simp [sumLn], hv, fun s hs => by simp at hs, h.root _ hv h1, fun h => h⟩
  | @cons v s l r h1 h2 ih =>
    obtain ⟨e1, e2, e3, e4, e5⟩ := h.edge v hv s h1
    obtain ⟨i1, i2, i3, i4, i5⟩ := ih (hL s e1).1
    refine ⟨by simp only [sumLn]; omega, i2, fun t ht => ?_, i4, fun _ => i5 e3⟩
    rcases List.mem_cons.1 ht with rfl | ht
    · exact e1
    · exact i3 t ht
theorem Chn.short {b : Nat → Option α} {N : Nat} {L : List α} (hL : A.In N L) {v : Nat} {l : List α} {r : Nat} (h : Chn A b v l r) (hv : v < N) (hl : ∀ s ∈ l, s ∈ L) : l.length + 1 ≤ N := by
  have := range_len (N := N) h.nodup (fun x hx => by
    rcases List.mem_cons.1 hx with rfl | hx
    · exact hv
    · obtain ⟨s, hs, rfl⟩ := List.mem_map.1 hx
      exact (hL s (hl s hs)).1)
  simpa [nodesOf] using this
theorem sumLn_bd {l : List α} {K : Int} (h : ∀ s ∈ l, -K ≤ A.ln s ∧ A.ln s ≤ K) : -(l.length * K) ≤ sumLn A l ∧ sumLn A l ≤ l.length * K := by
  induction l with
  | nil => simp [sumLn]
  | cons s l ih =>
    have := ih (fun t ht => h t (List.mem_cons_of_mem _ ht))
    have h1 := h s List.mem_cons_self
    simp only [sumLn, List.length_cons, Int.natCast_add, Int.add_mul]
    simp only [Int.cast_ofNat_Int, Int.one_mul]
    omega
theorem LEnd.down {N : Nat} {L : List α} {p first at_ : Nat → Int} {b : Nat → Option α} (h : LEnd A far N L p first at_ b) (hL : A.In N L) (hp : A.Pot L p) {v : Nat} (hv : v < N) {l : List α} {r : Nat} (hc : Chn A b v l r) : ∀ w ∈ v :: nodesOf A l, at_ w - p w ≤ at_ v - p v ∧ (at_ v < far → at_ w < far) := by
  induction hc with
  | nil _ => intro w hw; simp [nodesOf] at hw; subst hw; exact ⟨Int.le_refl _, fun h => h⟩
  | @cons v s l r h1 h2 ih =>
    obtain ⟨e1, e2, e3, e4, e5⟩ := h.edge v hv s h1
    have hs := hL s e1
    intro w hw
    rcases List.mem_cons.1 hw with rfl | hw
    · exact ⟨Int.le_refl _, fun h => h⟩
    · have := ih hs.1 w (by simpa [nodesOf] using hw)
      have h3 := hp s e1
      rw [e2] at h3
      exact ⟨by omega, fun _ => this.2 e3⟩
/-- no label is further from its beginning than so many arcs are long -/
theorem LEnd.bd {N : Nat} {L : List α} {p first at_ : Nat → Int} {b : Nat → Option α} (h : LEnd A far N L p first at_ b) (hL : A.In N L) {K : Int} (hK : 0 ≤ K) (hl : ∀ s ∈ L, -K ≤ A.ln s ∧ A.ln s ≤ K) {v : Nat} (hv : v < N) : ∃ r, r < N ∧ b r = none ∧ at_ r = first r ∧ (at_ v < far → first r < far) ∧ first r - (N - 1) * K ≤ at_ v ∧ at_ v ≤ first r + (N - 1) * K := by
  obtain ⟨l, r, hc⟩ := h.ends v hv
  obtain ⟨h1, h2, h3, h4, h9⟩ := h.tele hL hv hc
  have h5 := hc.short hL hv h3
  have h6 := sumLn_bd (A := A) (l := l) (fun s hs => hl s (h3 s hs))
  have h7 : (l.length : Int) * K ≤ (N - 1) * K := Int.mul_le_mul_of_nonneg_right (by omega) hK
  exact ⟨r, h2, hc.root, h4, fun hh => by have := h9 hh; omega, by omega, by omega⟩
/-- prices made of labels: no node further than the cap -/
def capP (far : Int) (p at_ : Nat → Int) (c : Int) (v : Nat) : Int := if at_ v < far ∧ at_ v - p v < c then at_ v else c + p v
theorem capP_pot {L : List α} {p at_ : Nat → Int} {c : Int} (h : A.Sat far L at_) (hp : A.Pot L p) (hb : ∀ s ∈ L, at_ (A.fr s) < far → at_ (A.to s) < far) : A.Pot L (capP far p at_ c) := by
  intro s hs
  have h1 := hp s hs
  unfold capP
  by_cases h2 : at_ (A.fr s) < far ∧ at_ (A.fr s) - p (A.fr s) < c
  · rw [if_pos h2]
    have h3 := h s hs h2.1
    split
    · omega
    · rename_i h4
      have h5 := hb s hs h2.1
      have : ¬ at_ (A.to s) - p (A.to s) < c := fun h6 => h4 ⟨h5, h6⟩
      omega
  · rw [if_neg h2]
    split <;> omega
/-- along the chain to a node these prices are the labels, and each arc is tight -/
theorem capP_tight {N : Nat} {L : List α} {p first at_ : Nat → Int} {b : Nat → Option α} (h : LEnd A far N L p first at_ b) (hL : A.In N L) (hp : A.Pot L p) {v : Nat} (hv : v < N) (hf : at_ v < far) {l : List α} {r : Nat} (hc : Chn A b v l r) :
    ∀ s ∈ l, capP far p at_ (at_ v - p v) (A.to s) = A.ln s + capP far p at_ (at_ v - p v) (A.fr s) := by
  have hd := h.down hL hp hv hc
  have same : ∀ w ∈ v :: nodesOf A l, capP far p at_ (at_ v - p v) w = at_ w := fun w hw => by
    obtain ⟨h1, h2⟩ := hd w hw
    have h3 := h2 hf
    unfold capP
    split <;> omega
  clear hd
  have key : ∀ {w l r'}, w < N → Chn A b w l r' → (∀ x ∈ w :: nodesOf A l, capP far p at_ (at_ v - p v) x = at_ x) → ∀ s ∈ l, capP far p at_ (at_ v - p v) (A.to s) = A.ln s + capP far p at_ (at_ v - p v) (A.fr s) := by
    intro w l r' hw hch
    induction hch with
    | nil _ => intro _ s hs; simp at hs
    | @cons w t l r' h1 h2 ih =>
      intro hsame s hs
      obtain ⟨e1, e2, e3, e4, e5⟩ := h.edge w hw t h1
      rcases List.mem_cons.1 hs with rfl | hs
      · rw [e2, hsame w List.mem_cons_self, hsame (A.fr s) (List.mem_cons_of_mem _ (by simp [nodesOf]))]; omega
      · exact ih (hL t e1).1 (fun x hx => hsame x (List.mem_cons_of_mem _ (by simpa [nodesOf] using hx))) s hs
  exact key hv hc same
end
end Go.Proofs.Ytaidoaggmllcfaa
/- Plain words of flows: what leaves, what it costs, steps, prices that prove, barriers. No program in sight. -/
namespace Go.Proofs.Ytaidoaggmllcfaa

def sumN (f : Nat → Int) : Nat → Int
  | 0 => 0
  | n + 1 => sumN f n + f n
theorem sumN_congr {f g : Nat → Int} : ∀ {n : Nat}, (∀ i, i < n → f i = g i) → sumN f n = sumN g n
  | 0, _ => rfl
  | n + 1, h => by simp only [sumN]; rw [sumN_congr (fun i hi => h i (by omega)), h n (by omega)]
theorem sumN_add (f g : Nat → Int) : ∀ n, sumN (fun i => f i + g i) n = sumN f n + sumN g n
  | 0 => rfl
  | n + 1 => by simp only [sumN]; rw [sumN_add]; omega
theorem sumN_mul (c : Int) (f : Nat → Int) : ∀ n, sumN (fun i => c * f i) n = c * sumN f n
  | 0 => by simp [sumN]
  | n + 1 => by simp only [sumN]; rw [sumN_mul, Int.mul_add]
theorem sumN_zero : ∀ n, sumN (fun _ => 0) n = 0
  | 0 => rfl
  | n + 1 => by simp only [sumN]; rw [sumN_zero]; omega
theorem sumN_le {f g : Nat → Int} : ∀ {n : Nat}, (∀ i, i < n → f i ≤ g i) → sumN f n ≤ sumN g n
  | 0, _ => Int.le_refl _
  | n + 1, h => by
    simp only [sumN]
    have := sumN_le (n := n) (fun i hi => h i (by omega))
    have := h n (by omega)
    omega
theorem sumN_nonneg {f : Nat → Int} {n : Nat} (h : ∀ i, i < n → 0 ≤ f i) : 0 ≤ sumN f n := by
  have := sumN_le (f := fun _ => 0) (g := f) (n := n) h
  rw [sumN_zero] at this; exact this
theorem sumN_swap (f : Nat → Nat → Int) (m : Nat) : ∀ n, sumN (fun i => sumN (fun j => f i j) m) n = sumN (fun j => sumN (fun i => f i j) n) m
  | 0 => by simp only [sumN]; rw [sumN_zero]
  | n + 1 => by
    simp only [sumN]
    rw [sumN_swap f m n, ← sumN_add]
theorem sumN_pick (f : Nat → Int) (a : Nat) : ∀ n, sumN (fun v => if v = a then f v else 0) n = if a < n then f a else 0
  | 0 => by simp [sumN]
  | n + 1 => by
    simp only [sumN]
    rw [sumN_pick]
    by_cases h : n = a
    · subst h; simp
    · by_cases h2 : a < n
      · rw [if_pos h2, if_neg h, if_pos (by omega)]; omega
      · rw [if_neg h2, if_neg h, if_neg (by omega)]; omega
/-- all terms not below 0 and their sum 0: each is 0 -/
theorem sumN_all0 {f : Nat → Int} : ∀ {n : Nat}, (∀ i, i < n → 0 ≤ f i) → sumN f n ≤ 0 → ∀ i, i < n → f i = 0
  | 0, _, _, i, hi => by omega
  | n + 1, h, hs, i, hi => by
    simp only [sumN] at hs
    have h1 := sumN_nonneg (n := n) (fun i hi => h i (by omega))
    have h2 := h n (by omega)
    rcases Nat.lt_succ_iff_lt_or_eq.1 hi with hi | rfl
    · exact sumN_all0 (n := n) (fun i hi => h i (by omega)) (by omega) i hi
    · omega
def one (a b : Nat) : Int := if a = b then 1 else 0
structure NetG where
  K : Nat
  fr : Nat → Nat
  to : Nat → Nat
  ln : Nat → Int
  wd : Nat → Int
def eNo (s : Int) : Nat := (max s (-s) - 1).toNat
def sg (s : Int) : Int := if s < 0 then -1 else 1
namespace NetG
def arcs (G : NetG) : Arcs Int := ⟨fun s => if s < 0 then G.to (eNo s) else G.fr (eNo s), fun s => if s < 0 then G.fr (eNo s) else G.to (eNo s), fun s => if s < 0 then -G.ln (eNo s) else G.ln (eNo s)⟩
def IsStep (G : NetG) (s : Int) : Prop := 1 ≤ max s (-s) ∧ max s (-s) ≤ G.K
/-- a step that a flow allows -/
def Ok (G : NetG) (f : Nat → Int) (s : Int) : Prop := G.IsStep s ∧ if s < 0 then 0 < f (eNo s) else f (eNo s) < G.wd (eNo s)
def Steps (G : NetG) (f : Nat → Int) (L : List Int) : Prop := ∀ s, s ∈ L ↔ G.Ok f s
def Fs (G : NetG) (f : Nat → Int) : Prop := ∀ k, k < G.K → 0 ≤ f k ∧ f k ≤ G.wd k
def out (G : NetG) (f : Nat → Int) (v : Nat) : Int := sumN (fun k => f k * (one (G.fr k) v - one (G.to k) v)) G.K
def cost (G : NetG) (f : Nat → Int) : Int := sumN (fun k => G.ln k * f k) G.K
def Fine (G : NetG) (N : Nat) : Prop := ∀ k, k < G.K → G.fr k < N ∧ G.to k < N
end NetG
theorem eNo_lt {G : NetG} {s : Int} (h : G.IsStep s) : eNo s < G.K := by unfold eNo; have := h.1; have := h.2; omega
theorem eNo_pos (k : Nat) : eNo ((k : Int) + 1) = k := by unfold eNo; omega
theorem eNo_neg (k : Nat) : eNo (-(k : Int) - 1) = k := by unfold eNo; omega
theorem eNo_eq {s t : Int} (hs : 1 ≤ max s (-s)) (ht : 1 ≤ max t (-t)) (h : eNo s = eNo t) : s = t ∨ s = -t := by unfold eNo at h; omega
theorem ok_pos {G : NetG} {f : Nat → Int} {k : Nat} (hk : k < G.K) (h : f k < G.wd k) : G.Ok f ((k : Int) + 1) := ⟨⟨by omega, by omega⟩, by rw [if_neg (by omega), eNo_pos]; exact h⟩
theorem ok_neg {G : NetG} {f : Nat → Int} {k : Nat} (hk : k < G.K) (h : 0 < f k) : G.Ok f (-(k : Int) - 1) := ⟨⟨by omega, by omega⟩, by rw [if_pos (by omega), eNo_neg]; exact h⟩
theorem steps_in {G : NetG} {N : Nat} {f : Nat → Int} {L : List Int} (hG : G.Fine N) (hL : G.Steps f L) : G.arcs.In N L := fun s hs => by
  have h1 := hG _ (eNo_lt ((hL s).1 hs).1)
  simp only [NetG.arcs]
  split <;> exact ⟨by omega, by omega⟩
/-! the worth of prices -/
theorem sum_one (p : Nat → Int) {a N : Nat} (h : a < N) : sumN (fun v => p v * one a v) N = p a := by
  rw [show (fun v => p v * one a v) = (fun v => if v = a then p v else 0) from funext fun v => by unfold one; by_cases e : v = a; rw [if_pos e, if_pos e.symm]; omega; rw [if_neg e, if_neg (fun h => e h.symm)]; omega]
  rw [sumN_pick, if_pos h]
theorem sum_out {G : NetG} {N : Nat} (hG : G.Fine N) (p f : Nat → Int) : sumN (fun v => p v * G.out f v) N = sumN (fun k => f k * (p (G.fr k) - p (G.to k))) G.K := by
  rw [show (fun v => p v * G.out f v) = (fun v => sumN (fun k => f k * (p v * one (G.fr k) v - p v * one (G.to k) v)) G.K) from funext fun v => by
    unfold NetG.out
    rw [← sumN_mul]
    exact sumN_congr fun k _ => by grind]
  rw [sumN_swap]
  refine sumN_congr fun k hk => ?_
  rw [sumN_mul]
  congr 1
  rw [show (fun v => p v * one (G.fr k) v - p v * one (G.to k) v) = (fun v => p v * one (G.fr k) v + (-1) * (p v * one (G.to k) v)) from funext fun v => by omega]
  rw [sumN_add, sumN_mul, sum_one p (hG k hk).1, sum_one p (hG k hk).2]
  omega
/-- prices for all steps of a flow: it is a cheapest one -/
theorem cheapest_of {G : NetG} {N : Nat} (hG : G.Fine N) {f g p : Nat → Int} {L : List Int} (hL : G.Steps f L) (hp : G.arcs.Pot L p) (hf : G.Fs f) (hg : G.Fs g) (hout : ∀ v, v < N → G.out f v = G.out g v) :
    G.cost f ≤ G.cost g ∧ (G.cost g ≤ G.cost f → ∀ k, k < G.K → (G.ln k + p (G.fr k) - p (G.to k)) * (g k - f k) = 0) := by
  have key : sumN (fun k => (G.ln k + p (G.fr k) - p (G.to k)) * (g k - f k)) G.K = G.cost g - G.cost f := by
    have h1 := sum_out hG p f
    have h2 := sum_out hG p g
    rw [sumN_congr (g := fun v => p v * G.out g v) (fun v hv => by rw [hout v hv]), h2] at h1
    have h3 : sumN (fun k => (G.ln k + p (G.fr k) - p (G.to k)) * (g k - f k)) G.K = sumN (fun k => (G.ln k * g k + (-1) * (G.ln k * f k)) + (g k * (p (G.fr k) - p (G.to k)) + (-1) * (f k * (p (G.fr k) - p (G.to k))))) G.K := sumN_congr fun k _ => by grind
    rw [h3, sumN_add, sumN_add, sumN_add, sumN_mul, sumN_mul, h1]
    unfold NetG.cost
    omega
  have pos : ∀ k, k < G.K → 0 ≤ (G.ln k + p (G.fr k) - p (G.to k)) * (g k - f k) := fun k hk => by
    have f1 := hf k hk
    have g1 := hg k hk
    by_cases h1 : f k < g k
    · have h2 := hp _ ((hL _).2 (ok_pos hk (show f k < G.wd k by omega)))
      simp only [NetG.arcs, eNo_pos] at h2
      rw [if_neg (by omega), if_neg (by omega), if_neg (by omega)] at h2
      exact Int.mul_nonneg (by omega) (by omega)
    · by_cases h3 : g k < f k
      · have h2 := hp _ ((hL _).2 (ok_neg hk (show 0 < f k by omega)))
        simp only [NetG.arcs, eNo_neg] at h2
        rw [if_pos (by omega), if_pos (by omega), if_pos (by omega)] at h2
        have := Int.mul_nonneg (show 0 ≤ -(G.ln k + p (G.fr k) - p (G.to k)) by omega) (show 0 ≤ -(g k - f k) by omega)
        rwa [Int.neg_mul_neg] at this
      · rw [show g k - f k = 0 by omega]; omega
  refine ⟨?_, fun hle => sumN_all0 pos (by omega)⟩
  have := sumN_nonneg pos
  omega
/-- the prices of one cheapest flow prove each other one -/
theorem pot_all {G : NetG} {N : Nat} (hG : G.Fine N) {f g p : Nat → Int} {L M : List Int} (hL : G.Steps f L) (hM : G.Steps g M) (hp : G.arcs.Pot L p) (hf : G.Fs f) (hg : G.Fs g) (hout : ∀ v, v < N → G.out f v = G.out g v) (hle : G.cost g ≤ G.cost f) : G.arcs.Pot M p := by
  intro s hs
  obtain ⟨h1, h2⟩ := (hM s).1 hs
  have hk := eNo_lt h1
  have h3 := (cheapest_of hG hL hp hf hg hout).2 hle (eNo s) hk
  have f1 := hf _ hk
  have g1 := hg _ hk
  have hor := Int.mul_eq_zero.1 h3
  have a1 : f (eNo s) < G.wd (eNo s) → 0 ≤ G.ln (eNo s) + p (G.fr (eNo s)) - p (G.to (eNo s)) := fun h => by
    have h2 := hp _ ((hL _).2 (ok_pos hk h))
    simp only [NetG.arcs, eNo_pos] at h2
    rw [if_neg (by omega), if_neg (by omega), if_neg (by omega)] at h2
    omega
  have a2 : 0 < f (eNo s) → G.ln (eNo s) + p (G.fr (eNo s)) - p (G.to (eNo s)) ≤ 0 := fun h => by
    have h2 := hp _ ((hL _).2 (ok_neg hk h))
    simp only [NetG.arcs, eNo_neg] at h2
    rw [if_pos (by omega), if_pos (by omega), if_pos (by omega)] at h2
    omega
  simp only [NetG.arcs]
  split at h2
  · rename_i hneg
    rw [if_pos hneg, if_pos hneg, if_pos hneg]
    rcases hor with h | h
    · omega
    · have := a2 (by omega); omega
  · rename_i hneg
    rw [if_neg hneg, if_neg hneg, if_neg hneg]
    rcases hor with h | h
    · omega
    · have := a1 (by omega); omega
/-! a flow turned along steps -/
def turnG (f : Nat → Int) (s : Int) : Nat → Int := upd f (eNo s) (f (eNo s) + sg s)
theorem sumN_upd (w f : Nat → Int) (a : Nat) (d : Int) : ∀ n, sumN (fun k => w k * upd f a (f a + d) k) n = sumN (fun k => w k * f k) n + if a < n then w a * d else 0
  | 0 => by simp [sumN]
  | n + 1 => by
    simp only [sumN]
    rw [sumN_upd]
    by_cases h : n = a
    · subst h
      rw [upd_same, if_neg (by omega), if_pos (by omega), Int.mul_add]; omega
    · rw [upd_ne h]
      by_cases h2 : a < n
      · rw [if_pos h2, if_pos (by omega)]; omega
      · rw [if_neg h2, if_neg (by omega)]; omega
theorem turnG_cost {G : NetG} (f : Nat → Int) {s : Int} (h : G.IsStep s) : G.cost (turnG f s) = G.cost f + G.arcs.ln s := by
  unfold NetG.cost turnG
  rw [sumN_upd, if_pos (eNo_lt h)]
  simp only [NetG.arcs, sg]
  split <;> omega
theorem turnG_out {G : NetG} (f : Nat → Int) {s : Int} (h : G.IsStep s) (v : Nat) : G.out (turnG f s) v = G.out f v + one (G.arcs.fr s) v - one (G.arcs.to s) v := by
  unfold NetG.out turnG
  rw [show (fun k => upd f (eNo s) (f (eNo s) + sg s) k * (one (G.fr k) v - one (G.to k) v)) = (fun k => (one (G.fr k) v - one (G.to k) v) * upd f (eNo s) (f (eNo s) + sg s) k) from funext fun k => Int.mul_comm _ _]
  rw [sumN_upd, if_pos (eNo_lt h), sumN_congr (f := fun k => (one (G.fr k) v - one (G.to k) v) * f k) (g := fun k => f k * (one (G.fr k) v - one (G.to k) v)) (fun k _ => Int.mul_comm _ _)]
  simp only [NetG.arcs, sg]
  split <;> omega
def turnsG (f : Nat → Int) (l : List Int) : Nat → Int := l.foldl turnG f
theorem turnsG_cost {G : NetG} : ∀ (l : List Int) (f : Nat → Int), (∀ s ∈ l, G.IsStep s) → G.cost (turnsG f l) = G.cost f + sumLn G.arcs l
  | [], f, _ => by simp [turnsG, sumLn]
  | s :: l, f, h => by
    have := turnsG_cost l (turnG f s) (fun t ht => h t (List.mem_cons_of_mem _ ht))
    unfold turnsG at this ⊢
    rw [List.foldl_cons, this, turnG_cost f (h s List.mem_cons_self)]
    simp only [sumLn]; omega
/-- what the ends of steps add up to -/
def sumEnd (G : NetG) (v : Nat) : List Int → Int
  | [] => 0
  | s :: l => one (G.arcs.fr s) v - one (G.arcs.to s) v + sumEnd G v l
theorem turnsG_out {G : NetG} (v : Nat) : ∀ (l : List Int) (f : Nat → Int), (∀ s ∈ l, G.IsStep s) → G.out (turnsG f l) v = G.out f v + sumEnd G v l
  | [], f, _ => by simp [turnsG, sumEnd]
  | s :: l, f, h => by
    have := turnsG_out v l (turnG f s) (fun t ht => h t (List.mem_cons_of_mem _ ht))
    unfold turnsG at this ⊢
    rw [List.foldl_cons, this, turnG_out f (h s List.mem_cons_self)]
    simp only [sumEnd]; omega
theorem turnsG_other : ∀ (l : List Int) (f : Nat → Int) (k : Nat), k ∉ l.map eNo → turnsG f l k = f k
  | [], f, k, _ => rfl
  | s :: l, f, k, h => by
    rw [List.map_cons, List.mem_cons, not_or] at h
    have := turnsG_other l (turnG f s) k h.2
    unfold turnsG at this ⊢
    rw [List.foldl_cons, this]
    unfold turnG; exact upd_ne h.1
theorem turnsG_at : ∀ (l : List Int) (f : Nat → Int), (l.map eNo).Nodup → ∀ s ∈ l, turnsG f l (eNo s) = f (eNo s) + sg s
  | [], f, _, s, hs => by simp at hs
  | t :: l, f, h, s, hs => by
    rw [List.map_cons, List.nodup_cons] at h
    rcases List.mem_cons.1 hs with rfl | hs
    · have := turnsG_other l (turnG f s) (eNo s) h.1
      unfold turnsG at this ⊢
      rw [List.foldl_cons, this]
      unfold turnG; rw [upd_same]
    · have hne : eNo s ≠ eNo t := fun e => h.1 (by rw [← e]; exact List.mem_map_of_mem hs)
      have := turnsG_at l (turnG f t) h.2 s hs
      unfold turnsG at this ⊢
      rw [List.foldl_cons, this]
      unfold turnG; rw [upd_ne hne]
theorem turnsG_fs {G : NetG} {f : Nat → Int} {l : List Int} (hf : G.Fs f) (hl : ∀ s ∈ l, G.Ok f s) (hn : (l.map eNo).Nodup) : G.Fs (turnsG f l) := by
  intro k hk
  by_cases hm : k ∈ l.map eNo
  · obtain ⟨s, hs, rfl⟩ := List.mem_map.1 hm
    rw [turnsG_at l f hn s hs]
    have h1 := (hl s hs).2
    have h2 := hf _ hk
    unfold sg
    split at h1
    · rename_i h3; rw [if_pos h3]; omega
    · rename_i h3; rw [if_neg h3]; omega
  · rw [turnsG_other l f k hm]; exact hf k hk
/-- prices that are tight along the steps serve the turned flow -/
theorem turnsG_pot {G : NetG} {f p : Nat → Int} {l L M : List Int} (hL : G.Steps f L) (hM : G.Steps (turnsG f l) M) (hp : G.arcs.Pot L p) (hl : ∀ s ∈ l, G.Ok f s) (ht : ∀ s ∈ l, p (G.arcs.to s) = G.arcs.ln s + p (G.arcs.fr s)) : G.arcs.Pot M p := by
  intro s hs
  obtain ⟨h1, h2⟩ := (hM s).1 hs
  by_cases hm : eNo s ∈ l.map eNo
  · obtain ⟨t, htl, e⟩ := List.mem_map.1 hm
    have h3 := ht t htl
    rcases eNo_eq (hl t htl).1.1 h1.1 e with rfl | rfl
    · omega
    · have e2 : eNo (-s) = eNo s := e
      have hne : s ≠ 0 := fun h => by have := h1.1; rw [h] at this; simp at this
      simp only [NetG.arcs, e2] at h3 ⊢
      by_cases hneg : s < 0
      · rw [if_neg (by omega), if_neg (by omega), if_neg (by omega)] at h3
        rw [if_pos hneg, if_pos hneg, if_pos hneg]; omega
      · rw [if_pos (by omega), if_pos (by omega), if_pos (by omega)] at h3
        rw [if_neg hneg, if_neg hneg, if_neg hneg]; omega
  · rw [turnsG_other l f _ hm] at h2
    exact hp s ((hL s).2 ⟨h1, h2⟩)
/-- the steps of a chain go along different roads -/
theorem chn_roads {G : NetG} {b : Nat → Option Int} {N : Nat} {f : Nat → Int} {L : List Int} (hL : G.Steps f L) (hb : ∀ v, v < N → ∀ s, b v = some s → s ∈ L ∧ G.arcs.to s = v ∧ G.arcs.fr s < N) {v : Nat} {l : List Int} {r : Nat} (hc : Chn G.arcs b v l r) : v < N → (l.map eNo).Nodup := by
  induction hc with
  | nil _ => intro _; simp
  | @cons v s l r h1 h2 ih =>
    intro hv
    obtain ⟨e1, e2, e3⟩ := hb v hv s h1
    rw [List.map_cons, List.nodup_cons]
    refine ⟨fun hm => ?_, ih e3⟩
    have hl : ∀ t ∈ l, t ∈ L := h2.arcs (P := fun v => v < N) (Q := fun t => t ∈ L) e3 (fun v t hv ht => ⟨(hb v hv t ht).2.2, (hb v hv t ht).1⟩)
    obtain ⟨t, ht, e⟩ := List.mem_map.1 hm
    have hs1 := ((hL s).1 e1).1
    have nd : (v :: nodesOf G.arcs (s :: l)).Nodup := Chn.nodup (.cons h1 h2)
    have nd2 : (G.arcs.fr s :: nodesOf G.arcs l).Nodup := h2.nodup
    have hft : G.arcs.fr t ∈ nodesOf G.arcs l := List.mem_map_of_mem ht
    rcases eNo_eq ((hL t).1 (hl t ht)).1.1 hs1.1 e with rfl | rfl
    · exact (List.nodup_cons.1 nd2).1 hft
    · have e4 : G.arcs.fr (-s) = G.arcs.to s := by
        have e5 : eNo (-s) = eNo s := e
        have := hs1.1
        simp only [NetG.arcs, e5]
        split <;> split <;> first | rfl | omega
      rw [e4, e2] at hft
      refine (List.nodup_cons.1 nd).1 ?_
      simp only [nodesOf, List.map_cons]
      exact List.mem_cons_of_mem _ hft
theorem chn_end {G : NetG} {b : Nat → Option Int} {N : Nat} (hb : ∀ v, v < N → ∀ s, b v = some s → G.arcs.to s = v ∧ G.arcs.fr s < N) {v : Nat} {l : List Int} {r : Nat} (hc : Chn G.arcs b v l r) (w : Nat) : v < N → sumEnd G w l = one r w - one v w := by
  induction hc with
  | nil _ => intro _; simp only [sumEnd]; omega
  | @cons v s l r h1 h2 ih =>
    intro hv
    obtain ⟨e1, e2⟩ := hb v hv s h1
    simp only [sumEnd]
    rw [ih e2, e1]; omega
/-! barriers -/
def sumS (x : Nat → Int) (S : Nat → Bool) (N : Nat) : Int := sumN (fun v => if S v then x v else 0) N
def NetG.cut (G : NetG) (S : Nat → Bool) : Int := sumN (fun k => if S (G.fr k) && !S (G.to k) then G.wd k else 0) G.K
theorem sumS_out {G : NetG} {N : Nat} (hG : G.Fine N) (f : Nat → Int) (S : Nat → Bool) : sumS (G.out f) S N = sumN (fun k => f k * ((if S (G.fr k) then 1 else 0) - (if S (G.to k) then 1 else 0))) G.K := by
  have := sum_out hG (fun v => if S v then 1 else 0) f
  rw [← this]
  unfold sumS
  exact sumN_congr fun v _ => by split <;> omega
theorem out_le_cut {G : NetG} {N : Nat} (hG : G.Fine N) {f : Nat → Int} (hf : G.Fs f) (S : Nat → Bool) : sumS (G.out f) S N ≤ G.cut S := by
  rw [sumS_out hG]
  refine sumN_le fun k hk => ?_
  have h1 := hf k hk
  cases S (G.fr k) <;> cases S (G.to k) <;> simp <;> omega
theorem out_eq_cut {G : NetG} {N : Nat} (hG : G.Fine N) {f : Nat → Int} {L : List Int} (hf : G.Fs f) (hL : G.Steps f L) (S : Nat → Bool) (hS : ∀ s ∈ L, S (G.arcs.fr s) = true → S (G.arcs.to s) = true) : sumS (G.out f) S N = G.cut S := by
  rw [sumS_out hG]
  refine sumN_congr fun k hk => ?_
  have h1 := hf k hk
  have h2 : S (G.fr k) = true → S (G.to k) = false → f k = G.wd k := fun a b => Classical.byContradiction fun hn => by
    have := hS _ ((hL _).2 (ok_pos hk (show f k < G.wd k by omega)))
    simp only [NetG.arcs, eNo_pos] at this
    rw [if_neg (by omega), if_neg (by omega)] at this
    rw [this a] at b; simp at b
  have h3 : S (G.to k) = true → S (G.fr k) = false → f k = 0 := fun a b => Classical.byContradiction fun hn => by
    have := hS _ ((hL _).2 (ok_neg hk (show 0 < f k by omega)))
    simp only [NetG.arcs, eNo_neg] at this
    rw [if_pos (by omega), if_pos (by omega)] at this
    rw [this a] at b; simp at b
  cases e1 : S (G.fr k) <;> cases e2 : S (G.to k) <;> simp [e1, e2] at h2 h3 ⊢ <;> omega
end Go.Proofs.Ytaidoaggmllcfaa
/- Plain words of flows: one unit more along a chain; what is left when no chain leads on. No program in sight. -/
namespace Go.Proofs.Ytaidoaggmllcfaa

/-- a flow with prices, and what it leaves of an excess -/
structure ShipInv (G : NetG) (N : Nat) (x f l : Nat → Int) : Prop where
  fs : G.Fs f
  out : ∀ v, v < N → G.out f v + l v = x v
  pot : ∃ p : Nat → Int, ∀ s, G.Ok f s → p (G.arcs.to s) ≤ G.arcs.ln s + p (G.arcs.fr s)
theorem pot_of {G : NetG} {f p : Nat → Int} {L : List Int} (hL : G.Steps f L) (h : ∀ s, G.Ok f s → p (G.arcs.to s) ≤ G.arcs.ln s + p (G.arcs.fr s)) : G.arcs.Pot L p := fun s hs => h s ((hL s).1 hs)
theorem of_pot {G : NetG} {f p : Nat → Int} {L : List Int} (hL : G.Steps f L) (h : G.arcs.Pot L p) : ∀ s, G.Ok f s → p (G.arcs.to s) ≤ G.arcs.ln s + p (G.arcs.fr s) := fun s hs => h s ((hL s).2 hs)
theorem ship_zero {G : NetG} {N : Nat} (x : Nat → Int) (hw : ∀ k, k < G.K → 0 ≤ G.wd k) (hl : ∀ k, k < G.K → 0 ≤ G.ln k) : ShipInv G N x (fun _ => 0) x := by
  refine ⟨fun k hk => ⟨Int.le_refl _, hw k hk⟩, fun v _ => ?_, fun _ => 0, fun s hs => ?_⟩
  · have : G.out (fun _ => 0) v = 0 := by
      unfold NetG.out
      rw [sumN_congr (g := fun _ => 0) (fun k _ => by simp)]
      exact sumN_zero _
    omega
  · have h1 := hl _ (eNo_lt hs.1)
    have h2 := hs.2
    simp only [NetG.arcs]
    split at h2
    · exact absurd h2 (by simp)
    · rename_i h; rw [if_neg h]; omega
/-- labels stay far below far -/
theorem LEnd.near {G : NetG} {far : Int} {N : Nat} {L : List Int} {p first at_ : Nat → Int} {b : Nat → Option Int} (h : LEnd G.arcs far N L p first at_ b) (hL : G.arcs.In N L) {K : Int} (hK : 0 ≤ K) (hl : ∀ s ∈ L, -K ≤ G.arcs.ln s ∧ G.arcs.ln s ≤ K) (hfirst : ∀ v, v < N → first v = far ∨ first v = 0) (hfar : N * K < far) :
    (∀ v, v < N → at_ v < far → -((N - 1) * K) ≤ at_ v ∧ at_ v ≤ (N - 1) * K) ∧ ∀ s ∈ L, at_ (G.arcs.fr s) < far → at_ (G.arcs.to s) < far := by
  have h1 : ∀ v, v < N → at_ v < far → -((N - 1) * K) ≤ at_ v ∧ at_ v ≤ (N - 1) * K := fun v hv hf => by
    obtain ⟨r, r1, r2, r3, r4, r5, r6⟩ := h.bd hL hK hl hv
    have := r4 hf
    rcases hfirst r r1 with e | e
    · omega
    · rw [e] at r5 r6; omega
  refine ⟨h1, fun s hs hf => ?_⟩
  have h2 := h1 _ (hL s hs).1 hf
  have h3 := h.sat s hs hf
  have h4 := hl s hs
  have h5 : ((N : Int) - 1) * K = N * K - K := by rw [Int.sub_mul]; omega
  omega
theorem ship_more {G : NetG} {far : Int} {N : Nat} (hG : G.Fine N) {x f l : Nat → Int} (h : ShipInv G N x f l) {L : List Int} (hL : G.Steps f L) {p first at_ : Nat → Int} {b : Nat → Option Int} (hp : G.arcs.Pot L p) (hE : LEnd G.arcs far N L p first at_ b)
    {K : Int} (hK : 0 ≤ K) (hl : ∀ s ∈ L, -K ≤ G.arcs.ln s ∧ G.arcs.ln s ≤ K) (hfar : N * K < far) (hfirst : ∀ v, v < N → first v = far ∨ (first v = 0 ∧ 0 < l v))
    {best : Nat} (hb : best < N) (hb2 : at_ best < far) : ∃ c r, Chn G.arcs b best c r ∧ r < N ∧ 0 < l r ∧ c.length + 1 ≤ N ∧ ShipInv G N x (turnsG f c) (fun v => l v + one best v - one r v) := by
  have hin := steps_in hG hL
  obtain ⟨c, r, hc⟩ := hE.ends best hb
  obtain ⟨h1, h2, h3, h4, h5⟩ := hE.tele hin hb hc
  obtain ⟨_, hn2⟩ := hE.near hin hK hl (fun v hv => (hfirst v hv).imp id (fun h => h.1)) hfar
  have hr : 0 < l r := by
    have := h5 hb2
    rcases hfirst r h2 with e | e
    · omega
    · exact e.2
  have hedge : ∀ v, v < N → ∀ s, b v = some s → s ∈ L ∧ G.arcs.to s = v ∧ G.arcs.fr s < N := fun v hv s hs => by
    obtain ⟨e1, e2, _⟩ := hE.edge v hv s hs
    exact ⟨e1, e2, (hin s e1).1⟩
  have hok : ∀ s ∈ c, G.Ok f s := fun s hs => (hL s).1 (h3 s hs)
  have hnd := chn_roads hL hedge hc hb
  have hfs := turnsG_fs h.fs hok hnd
  refine ⟨c, r, hc, h2, hr, hc.short hin hb h3, hfs, fun v hv => ?_, ?_⟩
  · rw [turnsG_out v c f (fun s hs => (hok s hs).1), chn_end (fun v hv s hs => (hedge v hv s hs).2) hc v hb]
    have := h.out v hv
    omega
  · refine ⟨capP far p at_ (at_ best - p best), fun s hs => ?_⟩
    have hpot := capP_pot (c := at_ best - p best) hE.sat hp hn2
    have htight := capP_tight hE hin hp hb hb2 hc
    by_cases hm : eNo s ∈ c.map eNo
    · obtain ⟨t, htl, e⟩ := List.mem_map.1 hm
      have h3 := htight t htl
      rcases eNo_eq (hok t htl).1.1 hs.1.1 e with rfl | rfl
      · omega
      · have e2 : eNo (-s) = eNo s := e
        have := hs.1.1
        simp only [NetG.arcs, e2] at h3 ⊢
        by_cases hneg : s < 0
        · rw [if_neg (by omega), if_neg (by omega), if_neg (by omega)] at h3
          rw [if_pos hneg, if_pos hneg, if_pos hneg]; omega
        · rw [if_pos (by omega), if_pos (by omega), if_pos (by omega)] at h3
          rw [if_neg hneg, if_neg hneg, if_neg hneg]; omega
    · obtain ⟨q1, q2⟩ := hs
      rw [turnsG_other c f _ hm] at q2
      exact hpot s ((hL s).2 ⟨q1, q2⟩)
def NetG.Dam (G : NetG) (N : Nat) (x : Nat → Int) (S : Nat → Bool) : Prop := G.cut S < sumS x S N
theorem dam_none {G : NetG} {N : Nat} (hG : G.Fine N) {x : Nat → Int} {S : Nat → Bool} (h : G.Dam N x S) {g : Nat → Int} (hg : G.Fs g) : ¬ ∀ v, v < N → G.out g v = x v := fun ho => by
  have h1 := out_le_cut hG hg S
  have h2 : sumS (G.out g) S N = sumS x S N := sumN_congr fun v hv => by rw [ho v hv]
  unfold NetG.Dam at h
  omega
theorem sumS_add (f g : Nat → Int) (S : Nat → Bool) (N : Nat) : sumS (fun v => f v + g v) S N = sumS f S N + sumS g S N := by
  unfold sumS
  rw [← sumN_add]
  exact sumN_congr fun v _ => by cases S v <;> simp
theorem sumN_term {f : Nat → Int} {n : Nat} (h : ∀ i, i < n → 0 ≤ f i) {a : Nat} (ha : a < n) : f a ≤ sumN f n := by
  have h1 := sumN_pick f a n
  rw [if_pos ha] at h1
  rw [← h1]
  exact sumN_le fun i hi => by have := h i hi; split <;> omega
/-- no chain leads on: what is reached is a barrier -/
theorem ship_stuck {G : NetG} {far : Int} {N : Nat} (hG : G.Fine N) {x f l : Nat → Int} (h : ShipInv G N x f l) {L : List Int} (hL : G.Steps f L) {p first at_ : Nat → Int} {b : Nat → Option Int} (hE : LEnd G.arcs far N L p first at_ b)
    {K : Int} (hK : 0 ≤ K) (hl : ∀ s ∈ L, -K ≤ G.arcs.ln s ∧ G.arcs.ln s ≤ K) (hfar : N * K < far) (hfirst : ∀ v, v < N → first v = far ∨ (first v = 0 ∧ 0 < l v))
    (hno : ∀ v, v < N → l v < 0 → ¬ at_ v < far) {a : Nat} (ha : a < N) (ha2 : first a = 0) : G.Dam N x (fun v => decide (at_ v < far)) := by
  have hin := steps_in hG hL
  obtain ⟨_, hn2⟩ := hE.near hin hK hl (fun v hv => (hfirst v hv).imp id (fun h => h.1)) hfar
  have hfar0 : 0 < far := by have : 0 ≤ (N : Int) * K := Int.mul_nonneg (by omega) hK; omega
  have h1 := out_eq_cut hG h.fs hL (fun v => decide (at_ v < far)) (fun s hs => by simp only [decide_eq_true_eq]; exact hn2 s hs)
  have h2 : sumS x (fun v => decide (at_ v < far)) N = sumS (G.out f) (fun v => decide (at_ v < far)) N + sumS l (fun v => decide (at_ v < far)) N := by
    rw [← sumS_add]
    exact sumN_congr fun v hv => by simp only [h.out v hv]
  have h3 : l a ≤ sumS l (fun v => decide (at_ v < far)) N := by
    have hle := hE.le a ha
    have := sumN_term (f := fun v => if decide (at_ v < far) then l v else 0) (n := N) (fun v hv => by
      by_cases hc : at_ v < far
      · have := hno v hv
        rw [if_pos (by simpa using hc)]
        omega
      · rw [if_neg (by simpa using hc)]; omega) ha
    rw [if_pos (by simp; omega)] at this
    exact this
  have h4 : 0 < l a := by
    rcases hfirst a ha with e | e
    · omega
    · exact e.2
  unfold NetG.Dam
  omega
/-- how much is too much -/
def over (l : Nat → Int) (N : Nat) : Int := sumN (fun v => max (l v) 0) N
theorem over_nonneg (l : Nat → Int) (N : Nat) : 0 ≤ over l N := sumN_nonneg fun v _ => by omega
theorem over_step {l : Nat → Int} {N best r : Nat} (hb : l best < 0) (hr : 0 < l r) (hrN : r < N) : over (fun v => l v + one best v - one r v) N = over l N - 1 := by
  unfold over
  have h1 := sum_one (fun _ => 1) hrN
  have key : ∀ v, max (l v + one best v - one r v) 0 = max (l v) 0 + (-1) * (1 * one r v) := fun v => by
    unfold one
    by_cases e1 : best = v
    · by_cases e2 : r = v
      · subst e1; subst e2; omega
      · subst e1; rw [if_pos rfl, if_neg e2]; omega
    · by_cases e2 : r = v
      · subst e2; rw [if_neg e1, if_pos rfl]; omega
      · rw [if_neg e1, if_neg e2]; omega
  rw [sumN_congr (g := fun v => max (l v) 0 + (-1) * (1 * one r v)) (fun v _ => key v), sumN_add, sumN_mul, h1]
  omega
theorem over_zero {l : Nat → Int} {N : Nat} (h : over l N = 0) : ∀ v, v < N → l v ≤ 0 := fun v hv => by
  have := sumN_all0 (f := fun v => max (l v) 0) (n := N) (fun v _ => by omega) (by unfold over at h; omega) v hv
  omega
/-- nothing too much, and no too little: all is moved -/
theorem left_zero {l : Nat → Int} {N : Nat} (h : ∀ v, v < N → l v ≤ 0) (hs : sumN l N = 0) : ∀ v, v < N → l v = 0 := fun v hv => by
  have := sumN_all0 (f := fun v => (-1) * l v) (n := N) (fun v hv => by have := h v hv; omega) (by rw [sumN_mul]; omega) v hv
  omega
theorem out_sum {G : NetG} {N : Nat} (hG : G.Fine N) (f : Nat → Int) : sumN (G.out f) N = 0 := by
  have := sum_out hG (fun _ => 1) f
  rw [sumN_congr (f := fun v => 1 * G.out f v) (g := G.out f) (fun v _ => by omega), sumN_congr (f := fun k => f k * (1 - 1)) (g := fun _ => 0) (fun k _ => by omega), sumN_zero] at this
  exact this
end Go.Proofs.Ytaidoaggmllcfaa
/- Plain words of a transport, told as a net: rows to columns. No program in sight. -/
namespace Go.Proofs.Ytaidoaggmllcfaa

theorem sumN_app (f : Nat → Int) (a : Nat) : ∀ b, sumN f (a + b) = sumN f a + sumN (fun i => f (a + i)) b
  | 0 => by simp [sumN]
  | b + 1 => by
    show sumN f (a + b) + f (a + b) = _
    rw [sumN_app f a b]; simp only [sumN]; omega
theorem div_at {m i j : Nat} (h : j < m) : (i * m + j) / m = i ∧ (i * m + j) % m = j := by
  constructor
  · rw [Nat.mul_comm, Nat.mul_add_div (by omega), Nat.div_eq_of_lt h]; omega
  · rw [Nat.mul_comm, Nat.mul_add_mod, Nat.mod_eq_of_lt h]
theorem at_div {m k n : Nat} (h : k < n * m) : k / m < n ∧ k % m < m ∧ k / m * m + k % m = k := by
  have hm : 0 < m := Nat.pos_of_ne_zero fun e => by subst e; simp at h
  exact ⟨(Nat.div_lt_iff_lt_mul hm).2 h, Nat.mod_lt _ hm, by rw [Nat.mul_comm]; exact Nat.div_add_mod k m⟩
theorem lt_at {n m i j : Nat} (hi : i < n) (hj : j < m) : i * m + j < n * m := by
  have := Nat.mul_le_mul_right m (show i + 1 ≤ n from hi)
  rw [Nat.add_mul, Nat.one_mul] at this
  omega
theorem sumN_rows (F : Nat → Nat → Int) {m : Nat} : ∀ n, sumN (fun k => F (k / m) (k % m)) (n * m) = sumN (fun i => sumN (F i) m) n
  | 0 => by simp [sumN]
  | n + 1 => by
    rw [Nat.add_mul, Nat.one_mul, sumN_app, sumN_rows F n]
    simp only [sumN]
    congr 1
    exact sumN_congr fun j hj => by rw [(div_at hj).1, (div_at hj).2]
theorem one_comm (a b : Nat) : one a b = one b a := by unfold one; by_cases h : a = b; rw [if_pos h, if_pos h.symm]; rw [if_neg h, if_neg (fun e => h e.symm)]
def netT (n m : Nat) (c : Nat → Nat → Int) (W : Int) : NetG := ⟨n * m, fun k => k / m, fun k => n + k % m, fun k => c (k / m) (k % m), fun _ => W⟩
def flowT (m : Nat) (P : Nat → Nat → Int) (k : Nat) : Int := P (k / m) (k % m)
theorem netT_fine (n m : Nat) (c : Nat → Nat → Int) (W : Int) : (netT n m c W).Fine (n + m) := fun k hk => by
  obtain ⟨h1, h2, _⟩ := at_div (show k < n * m from hk)
  exact ⟨by show k / m < _; omega, by show n + k % m < _; omega⟩
section
variable {n m : Nat} {c P Q : Nat → Nat → Int} {W : Int}
theorem sumN_dist (f : Nat → Int) (x : Int) (n : Nat) : sumN (fun i => f i * x) n = sumN f n * x := by
  rw [sumN_congr (g := fun i => x * f i) (fun i _ => Int.mul_comm _ _), sumN_mul, Int.mul_comm]
theorem out_row {i : Nat} (hi : i < n) : (netT n m c W).out (flowT m P) i = sumN (P i) m := by
  show sumN (fun k => P (k / m) (k % m) * (one (k / m) i - one (n + k % m) i)) (n * m) = _
  rw [sumN_rows (fun p q => P p q * (one p i - one (n + q) i)) n]
  rw [sumN_congr (g := fun p => sumN (P p) m * one i p) (fun p _ => by
    rw [← sumN_dist]
    refine sumN_congr fun q _ => ?_
    rw [one_comm p i]
    have : one (n + q) i = 0 := by unfold one; rw [if_neg (by omega)]
    rw [this]; simp)]
  exact sum_one _ hi
theorem out_col {j : Nat} (hj : j < m) : (netT n m c W).out (flowT m P) (n + j) = -sumN (fun i => P i j) n := by
  show sumN (fun k => P (k / m) (k % m) * (one (k / m) (n + j) - one (n + k % m) (n + j))) (n * m) = _
  rw [sumN_rows (fun p q => P p q * (one p (n + j) - one (n + q) (n + j))) n]
  rw [sumN_congr (g := fun p => (-1) * P p j) (fun p hp => by
    rw [sumN_congr (g := fun q => (-1 * P p q) * one j q) (fun q _ => by
      have e1 : one p (n + j) = 0 := by unfold one; rw [if_neg (by omega)]
      have e2 : one (n + q) (n + j) = one j q := by
        unfold one
        by_cases h : j = q
        · rw [if_pos h, if_pos (by omega)]
        · rw [if_neg h, if_neg (by omega)]
      rw [e1, e2]
      generalize one j q = z
      grind)]
    rw [sum_one (fun q => -1 * P p q) hj])]
  rw [sumN_mul]; omega
theorem cost_T : (netT n m c W).cost (flowT m P) = sumN (fun i => sumN (fun j => c i j * P i j) m) n := by
  show sumN (fun k => c (k / m) (k % m) * P (k / m) (k % m)) (n * m) = _
  exact sumN_rows (fun p q => c p q * P p q) n
/-! plans and prices -/
/-- a plan between masses -/
structure PlanT (n m : Nat) (a b : Nat → Int) (P : Nat → Nat → Int) : Prop where
  pos : ∀ i j, i < n → j < m → 0 ≤ P i j
  rows : ∀ i, i < n → sumN (P i) m = a i
  cols : ∀ j, j < m → sumN (fun i => P i j) n = b j
def costT (n m : Nat) (c P : Nat → Nat → Int) : Int := sumN (fun i => sumN (fun j => c i j * P i j) m) n
def worthT (n m : Nat) (a b u v : Nat → Int) : Int := sumN (fun i => a i * u i) n + sumN (fun j => b j * v j) m
theorem worth_plan {a b u v : Nat → Int} (h : PlanT n m a b P) : worthT n m a b u v = costT n m (fun i j => u i + v j) P := by
  unfold worthT costT
  have e : ∀ i, sumN (fun j => (u i + v j) * P i j) m = sumN (P i) m * u i + sumN (fun j => v j * P i j) m := fun i => by
    rw [← sumN_dist, ← sumN_add]
    exact sumN_congr fun j _ => by grind
  rw [sumN_congr (fun i _ => e i), sumN_add]
  rw [sumN_swap (fun i j => v j * P i j) m n]
  congr 1
  · exact sumN_congr fun i hi => by rw [h.rows i hi]
  · refine sumN_congr fun j hj => ?_
    rw [sumN_mul, h.cols j hj, Int.mul_comm]
theorem costT_le {c d : Nat → Nat → Int} (h : ∀ i j, i < n → j < m → c i j * P i j ≤ d i j * P i j) : costT n m c P ≤ costT n m d P :=
  sumN_le fun i hi => sumN_le fun j hj => h i j hi hj
theorem costT_eq {c d : Nat → Nat → Int} (h : ∀ i j, i < n → j < m → c i j * P i j = d i j * P i j) : costT n m c P = costT n m d P :=
  sumN_congr fun i hi => sumN_congr fun j hj => h i j hi hj
/-- prices that hold are worth no more than any plan costs -/
theorem worth_le {a b u v : Nat → Int} (h : PlanT n m a b P) (hp : ∀ i j, i < n → j < m → u i + v j ≤ c i j) : worthT n m a b u v ≤ costT n m c P := by
  rw [worth_plan h]
  exact costT_le fun i j hi hj => Int.mul_le_mul_of_nonneg_right (hp i j hi hj) (h.pos i j hi hj)
/-- .. and as much where they are tight -/
theorem worth_eq {a b u v : Nat → Int} (h : PlanT n m a b P) (hp : ∀ i j, i < n → j < m → 0 < P i j → u i + v j = c i j) : worthT n m a b u v = costT n m c P := by
  rw [worth_plan h]
  refine costT_eq fun i j hi hj => ?_
  have := h.pos i j hi hj
  by_cases h0 : 0 < P i j
  · rw [hp i j hi hj h0]
  · rw [show P i j = 0 by omega]; omega
/-- a part of a plan, with prices that prove it -/
structure PartT (n m : Nat) (c : Nat → Nat → Int) (a b : Nat → Int) (P : Nat → Nat → Int) : Prop where
  pos : ∀ i j, i < n → j < m → 0 ≤ P i j
  rows : ∀ i, i < n → sumN (P i) m ≤ a i
  cols : ∀ j, j < m → sumN (fun i => P i j) n ≤ b j
  pot : ∃ u v : Nat → Int, ∀ i j, i < n → j < m → u i + v j ≤ c i j ∧ (0 < P i j → u i + v j = c i j)
theorem PartT.zero {a b : Nat → Int} (hc : ∀ i j, i < n → j < m → 0 ≤ c i j) (ha : ∀ i, i < n → 0 ≤ a i) (hb : ∀ j, j < m → 0 ≤ b j) : PartT n m c a b (fun _ _ => 0) :=
  ⟨fun _ _ _ _ => Int.le_refl _, fun i hi => by rw [sumN_zero]; exact ha i hi, fun j hj => by rw [sumN_zero]; exact hb j hj, fun _ => 0, fun _ => 0, fun i j hi hj => ⟨by have := hc i j hi hj; show (0 : Int) + 0 ≤ _; omega, fun h => absurd h (by omega)⟩⟩
def colsLeft (n m : Nat) (b : Nat → Int) (P : Nat → Nat → Int) : Int := sumN (fun j => b j - sumN (fun i => P i j) n) m
theorem total_rows (P : Nat → Nat → Int) : sumN (fun i => sumN (P i) m) n = sumN (fun j => sumN (fun i => P i j) n) m := sumN_swap P m n
/-- nothing left of the columns: it is a plan -/
theorem PartT.full {a b : Nat → Int} (h : PartT n m c a b P) (hab : sumN a n = sumN b m) (h0 : ∀ j, j < m → ¬ 0 < b j - sumN (fun i => P i j) n) : PlanT n m a b P := by
  have hc : ∀ j, j < m → sumN (fun i => P i j) n = b j := fun j hj => by have := h.cols j hj; have := h0 j hj; omega
  have h1 : sumN (fun i => a i - sumN (P i) m) n = 0 := by
    have e := sumN_add (fun i => a i - sumN (P i) m) (fun i => sumN (P i) m) n
    rw [sumN_congr (g := a) (fun i _ => by omega), total_rows, sumN_congr (f := fun j => sumN (fun i => P i j) n) (g := b) hc] at e
    omega
  exact ⟨h.pos, fun i hi => by have := sumN_all0 (f := fun i => a i - sumN (P i) m) (n := n) (fun i hi => by have := h.rows i hi; omega) (by omega) i hi; omega, hc⟩
def potT (n : Nat) (u p : Nat → Int) (v : Nat) : Int := if v < n then -u v else p (v - n)
theorem potT_row {n v : Nat} (u p : Nat → Int) (h : v < n) : potT n u p v = -u v := if_pos h
theorem potT_col (n : Nat) (u p : Nat → Int) (j : Nat) : potT n u p (n + j) = p j := by unfold potT; rw [if_neg (by omega), show n + j - n = j by omega]
/-- prices of a flow of the net -/
theorem part_ship {a b : Nat → Int} (hW : ∀ i j, i < n → j < m → P i j < W) (h : PartT n m c a b P) :
    ShipInv (netT n m c W) (n + m) (fun v => if v < n then a v else -b (v - n)) (flowT m P) (fun v => if v < n then a v - sumN (P v) m else -(b (v - n) - sumN (fun i => P i (v - n)) n)) := by
  refine ⟨fun k hk => ?_, fun v hv => ?_, ?_⟩
  · obtain ⟨h1, h2, _⟩ := at_div (show k < n * m from hk)
    exact ⟨h.pos _ _ h1 h2, Int.le_of_lt (hW _ _ h1 h2)⟩
  · by_cases hn : v < n
    · rw [out_row hn, if_pos hn, if_pos hn]; omega
    · obtain ⟨j, rfl⟩ : ∃ j, v = n + j := ⟨v - n, by omega⟩
      rw [out_col (by omega), if_neg hn, if_neg hn, show n + j - n = j by omega]; omega
  · obtain ⟨u, p, hp⟩ := h.pot
    refine ⟨potT n u p, fun s hs => ?_⟩
    obtain ⟨h1, h2⟩ := hs
    obtain ⟨d1, d2, d3⟩ := at_div (show eNo s < n * m from eNo_lt h1)
    have h3 := hp _ _ d1 d2
    simp only [NetG.arcs, netT]
    split at h2
    · rename_i hneg
      have h4 := h3.2 h2
      rw [if_pos hneg, if_pos hneg, if_pos hneg, potT_row _ _ d1, potT_col]; omega
    · rename_i hneg
      rw [if_neg hneg, if_neg hneg, if_neg hneg, potT_row _ _ d1, potT_col]; omega
theorem ship_part {a b x l : Nat → Int} (h : ShipInv (netT n m c W) (n + m) x (flowT m P) l) (hW : ∀ i j, i < n → j < m → P i j < W) (hx : ∀ i, i < n → x i = a i) (hy : ∀ j, j < m → x (n + j) = -b j) (hl : ∀ i, i < n → 0 ≤ l i) (hl2 : ∀ j, j < m → l (n + j) ≤ 0) : PartT n m c a b P := by
  have e1 : ∀ i, i < n → sumN (P i) m + l i = a i := fun i hi => by have := h.out i (by omega); rw [out_row hi, hx i hi] at this; exact this
  have e2 : ∀ j, j < m → -sumN (fun i => P i j) n + l (n + j) = -b j := fun j hj => by have := h.out (n + j) (by omega); rw [out_col hj, hy j hj] at this; exact this
  refine ⟨fun i j hi hj => ?_, fun i hi => ?_, fun j hj => ?_, ?_⟩
  · have := (h.fs (i * m + j) (lt_at hi hj)).1
    unfold flowT at this
    rwa [(div_at hj).1, (div_at hj).2] at this
  · have := e1 i hi; have := hl i hi; omega
  · have := e2 j hj; have := hl2 j hj; omega
  · obtain ⟨p, hp⟩ := h.pot
    refine ⟨fun i => -p i, fun j => p (n + j), fun i j hi hj => ?_⟩
    have hk := lt_at hi hj
    obtain ⟨d1, d2⟩ := div_at (i := i) hj
    have h1 := hp _ (ok_pos (G := netT n m c W) (f := flowT m P) hk (by show P ((i * m + j) / m) ((i * m + j) % m) < W; rw [d1, d2]; exact hW i j hi hj))
    simp only [NetG.arcs, netT, eNo_pos] at h1
    rw [if_neg (by omega), if_neg (by omega), if_neg (by omega), d1, d2] at h1
    show -p i + p (n + j) ≤ c i j ∧ (0 < P i j → -p i + p (n + j) = c i j)
    refine ⟨by omega, fun h0 => ?_⟩
    have h2 := hp _ (ok_neg (G := netT n m c W) (f := flowT m P) hk (by show 0 < P ((i * m + j) / m) ((i * m + j) % m); rw [d1, d2]; exact h0))
    simp only [NetG.arcs, netT, eNo_neg] at h2
    rw [if_pos (by omega), if_pos (by omega), if_pos (by omega), d1, d2] at h2
    omega
end
end Go.Proofs.Ytaidoaggmllcfaa
/- Plain words of a transport: how far rows and columns are, what rounds do to labels, and that they are those of the net. No program in sight. -/
namespace Go.Proofs.Ytaidoaggmllcfaa

/-- labels of rows and columns, and what was before them -/
structure NS where
  ra : List Int
  rf : List Int
  ca : List Int
  cf : List Int
def farT : Int := 1099511627776
def stepA (c : Int) (i j : Nat) (st : NS) : NS := if gi st.ra i < farT ∧ gi st.ra i + c < gi st.ca j then ⟨st.ra, st.rf, st.ca.set j (gi st.ra i + c), st.cf.set j i⟩ else st
def stepB (c p : Int) (i j : Nat) (st : NS) : NS := if 0 < p ∧ gi st.ca j < farT ∧ gi st.ca j - c < gi st.ra i then ⟨st.ra.set i (gi st.ca j - c), st.rf.set i j, st.ca, st.cf⟩ else st
def pairK (c P : Nat → Nat → Int) (m k : Nat) (st : NS) : NS := stepB (c (k / m) (k % m)) (P (k / m) (k % m)) (k / m) (k % m) (stepA (c (k / m) (k % m)) (k / m) (k % m) st)
def relK (c P : Nat → Nat → Int) (m : Nat) (st : NS) : Nat → NS
  | 0 => st
  | k + 1 => pairK c P m k (relK c P m st k)
def reachT (c P : Nat → Nat → Int) (n m : Nat) (st : NS) : Nat → NS
  | 0 => st
  | r + 1 => relK c P m (reachT c P n m st r) (n * m)
theorem relK_at {c P : Nat → Nat → Int} {m i j : Nat} (hj : j < m) (st : NS) : relK c P m st (i * m + (j + 1)) = stepB (c i j) (P i j) i j (stepA (c i j) i j (relK c P m st (i * m + j))) := by
  obtain ⟨h1, h2⟩ := div_at (i := i) hj
  show pairK c P m (i * m + j) (relK c P m st (i * m + j)) = _
  unfold pairK
  rw [h1, h2]
theorem gi_set' (l : List Int) {i : Nat} (v : Int) (j : Nat) (hi : i < l.length) : gi (l.set i v) j = if j = i then v else gi l j := by
  unfold gi
  by_cases h : j = i
  · subst h; simp [hi]
  · rw [if_neg h, List.getElem?_set_ne (by omega)]
/-! bounds -/
structure NsOk (n m : Nat) (k : Nat) (st : NS) : Prop where
  l1 : st.ra.length = n
  l2 : st.rf.length = n
  l3 : st.ca.length = m
  l4 : st.cf.length = m
  b1 : ∀ i, -((k : Int) * 99) ≤ gi st.ra i ∧ gi st.ra i ≤ farT
  b3 : ∀ j, -((k : Int) * 99) ≤ gi st.ca j ∧ gi st.ca j ≤ farT
  b2 : ∀ i, -1 ≤ gi st.rf i ∧ gi st.rf i < m
  b4 : ∀ j, 0 ≤ gi st.cf j ∧ gi st.cf j < n
theorem NsOk.mono {n m k k' : Nat} {st : NS} (h : NsOk n m k st) (hk : k ≤ k') : NsOk n m k' st :=
  ⟨h.l1, h.l2, h.l3, h.l4, fun i => by have := h.b1 i; omega, fun i => by have := h.b3 i; omega, h.b2, h.b4⟩
theorem stepA_ok {n m k i j : Nat} {c : Int} {st : NS} (h : NsOk n m k st) (hc : 0 ≤ c ∧ c ≤ 99) (hi : i < n) (hj : j < m) : NsOk n m (k + 1) (stepA c i j st) := by
  unfold stepA
  split
  · rename_i h1
    have a1 := h.b1 i
    have a3 := h.b3 j
    refine ⟨h.l1, h.l2, by rw [List.length_set]; exact h.l3, by rw [List.length_set]; exact h.l4, fun q => by have := h.b1 q; show -(((k + 1 : Nat) : Int) * 99) ≤ gi st.ra q ∧ gi st.ra q ≤ _; omega, fun q => ?_, h.b2, fun q => ?_⟩
    · rw [gi_set' _ _ _ (by rw [h.l3]; exact hj)]
      have := h.b3 q
      split <;> omega
    · rw [gi_set' _ _ _ (by rw [h.l4]; exact hj)]
      have := h.b4 q
      split <;> omega
  · exact h.mono (by omega)
theorem stepB_ok {n m k i j : Nat} {c p : Int} {st : NS} (h : NsOk n m k st) (hc : 0 ≤ c ∧ c ≤ 99) (hi : i < n) (hj : j < m) : NsOk n m (k + 1) (stepB c p i j st) := by
  unfold stepB
  split
  · rename_i h1
    have a1 := h.b1 i
    have a3 := h.b3 j
    refine ⟨by rw [List.length_set]; exact h.l1, by rw [List.length_set]; exact h.l2, h.l3, h.l4, fun q => ?_, fun q => by have := h.b3 q; show -(((k + 1 : Nat) : Int) * 99) ≤ gi st.ca q ∧ gi st.ca q ≤ _; omega, fun q => ?_, h.b4⟩
    · rw [gi_set' _ _ _ (by rw [h.l1]; exact hi)]
      have := h.b1 q
      split <;> omega
    · rw [gi_set' _ _ _ (by rw [h.l2]; exact hi)]
      have := h.b2 q
      split <;> omega
  · exact h.mono (by omega)
theorem relK_ok {n m k : Nat} {c P : Nat → Nat → Int} {st : NS} (h : NsOk n m k st) (hc : ∀ i j, i < n → j < m → 0 ≤ c i j ∧ c i j ≤ 99) : ∀ q, q ≤ n * m → NsOk n m (k + 2 * q) (relK c P m st q)
  | 0, _ => h
  | q + 1, hq => by
    obtain ⟨h1, h2, _⟩ := at_div (show q < n * m by omega)
    exact (stepB_ok (stepA_ok (relK_ok h hc q (by omega)) (hc _ _ h1 h2) h1 h2) (hc _ _ h1 h2) h1 h2).mono (by omega)
theorem area_le {n m : Nat} (hn : n ≤ 5) (hm : m ≤ 5) : n * m ≤ 25 := Nat.le_trans (Nat.mul_le_mul hn hm) (by omega)
theorem reachT_ok {n m : Nat} {c P : Nat → Nat → Int} {st : NS} (h : NsOk n m 0 st) (hc : ∀ i j, i < n → j < m → 0 ≤ c i j ∧ c i j ≤ 99) (hn : n ≤ 5) (hm : m ≤ 5) : ∀ r, NsOk n m (50 * r) (reachT c P n m st r)
  | 0 => h
  | r + 1 => (relK_ok (reachT_ok h hc hn hm r) hc _ (Nat.le_refl _)).mono (by have := area_le hn hm; omega)
/-! they are those of the net -/
structure RelT (n m : Nat) (st : NS) (lb : Lb Int) : Prop where
  l1 : st.ra.length = n
  l2 : st.rf.length = n
  l3 : st.ca.length = m
  l4 : st.cf.length = m
  ra : ∀ i, i < n → gi st.ra i = lb.at_ i
  ca : ∀ j, j < m → gi st.ca j = lb.at_ (n + j)
  rf : ∀ i, i < n → (gi st.rf i = -1 ∧ lb.by_ i = none) ∨ ∃ j : Nat, j < m ∧ gi st.rf i = j ∧ lb.by_ i = some (-((i * m + j : Nat) : Int) - 1)
  cf : ∀ j, j < m → lb.by_ (n + j) = none ∨ ∃ i : Nat, i < n ∧ gi st.cf j = i ∧ lb.by_ (n + j) = some (((i * m + j : Nat) : Int) + 1)
theorem RelT.last {n m : Nat} {st : NS} {lb : Lb Int} (h : RelT n m st lb) (z : Int) : RelT n m st { lb with last := z } := ⟨h.l1, h.l2, h.l3, h.l4, h.ra, h.ca, h.rf, h.cf⟩
section
variable {n m i j : Nat} {c P : Nat → Nat → Int} {W : Int} {st : NS} {lb : Lb Int}
theorem arc_pos (hj : j < m) : (netT n m c W).arcs.fr (((i * m + j : Nat) : Int) + 1) = i ∧ (netT n m c W).arcs.to (((i * m + j : Nat) : Int) + 1) = n + j ∧ (netT n m c W).arcs.ln (((i * m + j : Nat) : Int) + 1) = c i j := by
  obtain ⟨d1, d2⟩ := div_at (i := i) hj
  simp only [NetG.arcs, netT, eNo_pos]
  rw [if_neg (by omega), if_neg (by omega), if_neg (by omega), d1, d2]
  exact ⟨rfl, rfl, rfl⟩
theorem arc_neg (hj : j < m) : (netT n m c W).arcs.fr (-((i * m + j : Nat) : Int) - 1) = n + j ∧ (netT n m c W).arcs.to (-((i * m + j : Nat) : Int) - 1) = i ∧ (netT n m c W).arcs.ln (-((i * m + j : Nat) : Int) - 1) = -c i j := by
  obtain ⟨d1, d2⟩ := div_at (i := i) hj
  simp only [NetG.arcs, netT, eNo_neg]
  rw [if_pos (by omega), if_pos (by omega), if_pos (by omega), d1, d2]
  exact ⟨rfl, rfl, rfl⟩
theorem relA (h : RelT n m st lb) (hi : i < n) (hj : j < m) : RelT n m (stepA (c i j) i j st) ((netT n m c W).arcs.relax farT lb (((i * m + j : Nat) : Int) + 1)) := by
  obtain ⟨e1, e2, e3⟩ := arc_pos (n := n) (c := c) (W := W) (i := i) hj
  have hco : (netT n m c W).arcs.Cond farT lb (((i * m + j : Nat) : Int) + 1) ↔ gi st.ra i < farT ∧ gi st.ra i + c i j < gi st.ca j := by
    unfold Arcs.Cond
    rw [e1, e2, e3, ← h.ra i hi, ← h.ca j hj]
  unfold stepA Arcs.relax
  by_cases hc : gi st.ra i < farT ∧ gi st.ra i + c i j < gi st.ca j
  · rw [if_pos hc, if_pos (hco.2 hc)]
    unfold Arcs.put
    rw [e1, e2, e3, ← h.ra i hi]
    refine ⟨h.l1, h.l2, by rw [List.length_set]; exact h.l3, by rw [List.length_set]; exact h.l4, fun q hq => ?_, fun q hq => ?_, fun q hq => ?_, fun q hq => ?_⟩ <;> dsimp only
    · rw [upd_ne (by omega)]; exact h.ra q hq
    · rw [gi_set' _ _ _ (by rw [h.l3]; exact hj)]
      by_cases e : q = j
      · subst e; rw [if_pos rfl, upd_same]
      · rw [if_neg e, upd_ne (by omega)]; exact h.ca q hq
    · rw [show upd lb.by_ (n + j) (some (((i * m + j : Nat) : Int) + 1)) q = lb.by_ q from upd_ne (by omega)]; exact h.rf q hq
    · rw [gi_set' _ _ _ (by rw [h.l4]; exact hj)]
      by_cases e : q = j
      · subst e; exact .inr ⟨i, hi, by rw [if_pos rfl], by show upd _ _ _ _ = _; rw [upd_same]⟩
      · rw [if_neg e, show upd lb.by_ (n + j) (some (((i * m + j : Nat) : Int) + 1)) (n + q) = lb.by_ (n + q) from upd_ne (by omega)]; exact h.cf q hq
  · rw [if_neg hc, if_neg (fun h2 => hc (hco.1 h2))]; exact h
theorem relB (h : RelT n m st lb) (hi : i < n) (hj : j < m) {p : Int} (hp : 0 < p) : RelT n m (stepB (c i j) p i j st) ((netT n m c W).arcs.relax farT lb (-((i * m + j : Nat) : Int) - 1)) := by
  obtain ⟨e1, e2, e3⟩ := arc_neg (n := n) (c := c) (W := W) (i := i) hj
  have hco : (netT n m c W).arcs.Cond farT lb (-((i * m + j : Nat) : Int) - 1) ↔ gi st.ca j < farT ∧ gi st.ca j - c i j < gi st.ra i := by
    unfold Arcs.Cond
    rw [e1, e2, e3, ← h.ra i hi, ← h.ca j hj]; omega
  unfold stepB Arcs.relax
  by_cases hc : gi st.ca j < farT ∧ gi st.ca j - c i j < gi st.ra i
  · rw [if_pos ⟨hp, hc⟩, if_pos (hco.2 hc)]
    unfold Arcs.put
    rw [e1, e2, e3, ← h.ca j hj]
    refine ⟨by rw [List.length_set]; exact h.l1, by rw [List.length_set]; exact h.l2, h.l3, h.l4, fun q hq => ?_, fun q hq => ?_, fun q hq => ?_, fun q hq => ?_⟩ <;> dsimp only
    · rw [gi_set' _ _ _ (by rw [h.l1]; exact hi)]
      by_cases e : q = i
      · subst e; rw [if_pos rfl, upd_same]; omega
      · rw [if_neg e, upd_ne e]; exact h.ra q hq
    · rw [upd_ne (by omega)]; exact h.ca q hq
    · rw [gi_set' _ _ _ (by rw [h.l2]; exact hi)]
      by_cases e : q = i
      · subst e; exact .inr ⟨j, hj, by rw [if_pos rfl], by show upd _ _ _ _ = _; rw [upd_same]⟩
      · rw [if_neg e, show upd lb.by_ i (some (-((i * m + j : Nat) : Int) - 1)) q = lb.by_ q from upd_ne e]; exact h.rf q hq
    · rw [show upd lb.by_ i (some (-((i * m + j : Nat) : Int) - 1)) (n + q) = lb.by_ (n + q) from upd_ne (by omega)]; exact h.cf q hq
  · rw [if_neg (fun h2 => hc h2.2), if_neg (fun h2 => hc (hco.1 h2))]
    exact h
theorem stepB_no {p : Int} {c : Int} (h : ¬ 0 < p) : stepB c p i j st = st := by unfold stepB; rw [if_neg (fun h2 => h h2.1)]
/-- the steps that a plan allows -/
def stepsT (f : Nat → Int) : Nat → List Int
  | 0 => []
  | k + 1 => stepsT f k ++ (((k : Int) + 1) :: if 0 < f k then [-(k : Int) - 1] else [])
theorem stepsT_mem (f : Nat → Int) : ∀ K s, s ∈ stepsT f K ↔ (1 ≤ max s (-s) ∧ max s (-s) ≤ K) ∧ (s < 0 → 0 < f (eNo s))
  | 0, s => by simp only [stepsT, List.not_mem_nil, false_iff]; omega
  | K + 1, s => by
    simp only [stepsT, List.mem_append, List.mem_cons, stepsT_mem f K s]
    have hn : ∀ t : Int, t ∈ (if 0 < f K then [-(K : Int) - 1] else []) ↔ t = -(K : Int) - 1 ∧ 0 < f K := fun t => by split <;> simp [*]
    rw [hn]
    constructor
    · rintro (⟨⟨h1, h2⟩, h3⟩ | h | ⟨h, h3⟩)
      · exact ⟨⟨h1, by omega⟩, h3⟩
      · subst h; exact ⟨⟨by omega, by omega⟩, fun h => by omega⟩
      · subst h; refine ⟨⟨by omega, by omega⟩, fun _ => ?_⟩; rw [eNo_neg]; exact h3
    · rintro ⟨⟨h1, h2⟩, h3⟩
      by_cases e : max s (-s) ≤ K
      · exact .inl ⟨⟨h1, e⟩, h3⟩
      · by_cases e2 : s < 0
        · have : s = -(K : Int) - 1 := by omega
          refine .inr (.inr ⟨this, ?_⟩)
          have := h3 e2
          rwa [‹s = -(K : Int) - 1›, eNo_neg] at this
        · exact .inr (.inl (by omega))
theorem stepsT_steps (hW : ∀ k, k < n * m → flowT m P k < W) : (netT n m c W).Steps (flowT m P) (stepsT (flowT m P) (n * m)) := fun s => by
  rw [stepsT_mem]
  constructor
  · rintro ⟨h1, h2⟩
    refine ⟨h1, ?_⟩
    split
    · rename_i h; exact h2 h
    · exact hW _ (eNo_lt (G := netT n m c W) h1)
  · rintro ⟨h1, h2⟩
    refine ⟨h1, fun h => ?_⟩
    rw [if_pos h] at h2; exact h2
theorem rel_round (h : RelT n m st lb) : ∀ K, K ≤ n * m → RelT n m (relK c P m st K) ((stepsT (flowT m P) K).foldl ((netT n m c W).arcs.relax farT) lb)
  | 0, _ => h
  | K + 1, hK => by
    obtain ⟨d1, d2, d3⟩ := at_div (show K < n * m by omega)
    have h1 := relA (c := c) (W := W) (rel_round h K (by omega)) d1 d2
    simp only [stepsT, List.foldl_append, List.foldl_cons]
    show RelT n m (stepB _ _ _ _ (stepA _ _ _ _)) _
    by_cases h2 : 0 < flowT m P K
    · rw [if_pos h2]
      have h3 := relB (c := c) (W := W) h1 d1 d2 (p := P (K / m) (K % m)) h2
      rw [d3] at h3
      exact h3
    · rw [if_neg h2, stepB_no (p := P (K / m) (K % m)) h2]
      rw [d3] at h1
      exact h1
theorem rel_reach (h : RelT n m st lb) : ∀ r, RelT n m (reachT c P n m st r) ((netT n m c W).arcs.reach farT (stepsT (flowT m P) (n * m)) lb r)
  | 0 => h
  | r + 1 => rel_round ((rel_reach h r).last (-1)) (n * m) (Nat.le_refl _)
end
end Go.Proofs.Ytaidoaggmllcfaa
/- Plain words of a transport: one unit more along the cheapest chain. No program in sight. -/
namespace Go.Proofs.Ytaidoaggmllcfaa

/-- n rows of m numbers -/
def ShapeT (n m : Nat) (P : Tbl) : Prop := P.length = n ∧ ∀ i, i < n → (row P i).length = m
def addP (P : Tbl) (i j : Nat) (d : Int) : Tbl := setT P i j (tg P i j + d)
theorem addP_shape {n m i j : Nat} {P : Tbl} (h : ShapeT n m P) (hi : i < n) (d : Int) : ShapeT n m (addP P i j d) :=
  ⟨by unfold addP; rw [setT_len]; exact h.1, fun k hk => by unfold addP; rw [cols_setT _ _ (by rw [h.1]; exact hi)]; exact h.2 k hk⟩
theorem tg_addP {n m i j : Nat} {P : Tbl} (h : ShapeT n m P) (hi : i < n) (hj : j < m) (d : Int) (p q : Nat) : tg (addP P i j d) p q = if p = i ∧ q = j then tg P i j + d else tg P p q :=
  tg_setT P _ (by rw [h.1]; exact hi) (by rw [h.2 i hi]; exact hj)
theorem turn_add {n m i j : Nat} {P : Tbl} (h : ShapeT n m P) (hi : i < n) (hj : j < m) {s : Int} (hs : eNo s = i * m + j) : turnG (flowT m (tg P)) s = flowT m (tg (addP P i j (sg s))) := by
  obtain ⟨d1, d2⟩ := div_at (i := i) hj
  funext k
  unfold turnG flowT
  rw [tg_addP h hi hj, hs]
  unfold upd
  by_cases e : k = i * m + j
  · subst e
    rw [if_pos rfl, if_pos ⟨d1, d2⟩, d1, d2]
  · rw [if_neg e, if_neg]
    rintro ⟨e1, e2⟩
    refine e ?_
    rw [← e1, ← e2, Nat.mul_comm]
    exact (Nat.div_add_mod k m).symm
/-- what a plan leaves of the rows and of the columns -/
def leftR (a : List Int) (P : Tbl) (m : Nat) : List Int := (List.range a.length).map fun i => gi a i - sumN (tg P i) m
def leftC (b : List Int) (P : Tbl) (n : Nat) : List Int := (List.range b.length).map fun j => gi b j - sumN (fun i => tg P i j) n
theorem leftR_len (a : List Int) (P : Tbl) (m : Nat) : (leftR a P m).length = a.length := by simp [leftR]
theorem leftC_len (b : List Int) (P : Tbl) (n : Nat) : (leftC b P n).length = b.length := by simp [leftC]
theorem gi_leftR {a : List Int} {P : Tbl} {m i : Nat} (h : i < a.length) : gi (leftR a P m) i = gi a i - sumN (tg P i) m := by simp [gi, leftR, h]
theorem gi_leftC {b : List Int} {P : Tbl} {n j : Nat} (h : j < b.length) : gi (leftC b P n) j = gi b j - sumN (fun i => tg P i j) n := by simp [gi, leftC, h]
/-- where the chains may begin -/
def firstT (lr : List Int) (m : Nat) : NS := ⟨lr.map fun x => if x = 0 then farT else 0, lr.map fun _ => -1, List.replicate m farT, List.replicate m 0⟩
theorem gi_map {l : List Int} {f : Int → Int} {i : Nat} (h : i < l.length) : gi (l.map f) i = f (gi l i) := by simp [gi, h]
theorem gi_replicate {m j : Nat} (x : Int) (h : j < m) : gi (List.replicate m x) j = x := by simp [gi, h]
theorem gi_out {l : List Int} {i : Nat} (h : ¬ i < l.length) : gi l i = 0 := by unfold gi; rw [List.getElem?_eq_none (by omega)]; rfl
theorem firstT_ok (lr : List Int) {m : Nat} (hn : 1 ≤ lr.length) (hm : 1 ≤ m) : NsOk lr.length m 0 (firstT lr m) := by
  refine ⟨by simp [firstT], by simp [firstT], by simp [firstT], by simp [firstT], fun i => ?_, fun j => ?_, fun i => ?_, fun j => ?_⟩
  · show _ ≤ gi (lr.map _) i ∧ gi (lr.map _) i ≤ _
    by_cases h : i < lr.length
    · rw [gi_map h]; unfold farT; split <;> omega
    · rw [gi_out (by simpa using h)]; unfold farT; omega
  · show _ ≤ gi (List.replicate m farT) j ∧ gi (List.replicate m farT) j ≤ _
    by_cases h : j < m
    · rw [gi_replicate _ h]; unfold farT; omega
    · rw [gi_out (by simpa using h)]; unfold farT; omega
  · show _ ≤ gi (lr.map _) i ∧ gi (lr.map _) i < _
    by_cases h : i < lr.length
    · rw [gi_map h]; omega
    · rw [gi_out (by simpa using h)]; omega
  · show _ ≤ gi (List.replicate m 0) j ∧ gi (List.replicate m 0) j < _
    by_cases h : j < m
    · rw [gi_replicate _ h]; omega
    · rw [gi_out (by simpa using h)]; omega
def firstF (lr : List Int) (n : Nat) (v : Nat) : Int := if v < n then (if gi lr v = 0 then farT else 0) else farT
theorem first_rel {n m : Nat} {lr : List Int} (h : lr.length = n) (z : Int) : RelT n m (firstT lr m) ⟨firstF lr n, fun _ => none, z⟩ := by
  refine ⟨by simp [firstT, h], by simp [firstT, h], by simp [firstT], by simp [firstT], fun i hi => ?_, fun j hj => ?_, fun i hi => .inl ⟨?_, rfl⟩, fun j hj => .inl rfl⟩
  · show gi (lr.map _) i = firstF lr n i
    rw [gi_map (by omega)]; unfold firstF; rw [if_pos hi]
  · show gi (List.replicate m farT) j = firstF lr n (n + j)
    rw [gi_replicate _ hj]; unfold firstF; rw [if_neg (by omega)]
  · show gi (lr.map _) i = -1
    rw [gi_map (by omega)]
/-- the nearest column of which something is left, of the first k -/
def bestT (cl ca : List Int) : Nat → Int
  | 0 => -1
  | k + 1 => if 0 < gi cl k ∧ gi ca k < farT ∧ (bestT cl ca k < 0 ∨ gi ca k < gi ca (bestT cl ca k).toNat) then (k : Int) else bestT cl ca k
theorem bestT_bd (cl ca : List Int) : ∀ k, -1 ≤ bestT cl ca k ∧ bestT cl ca k < k
  | 0 => by simp [bestT]
  | k + 1 => by
    have ih := bestT_bd cl ca k
    simp only [bestT]
    split <;> omega
theorem bestT_pos (cl ca : List Int) : ∀ k p : Nat, bestT cl ca k = p → 0 < gi cl p ∧ gi ca p < farT
  | 0, p, h => by simp only [bestT] at h; omega
  | k + 1, p, h => by
    simp only [bestT] at h
    split at h
    · rename_i h1
      have : k = p := by omega
      subst this
      exact ⟨h1.1, h1.2.1⟩
    · exact bestT_pos cl ca k p h
theorem bestT_neg (cl ca : List Int) : ∀ k : Nat, bestT cl ca k < 0 → ∀ j, j < k → ¬ (0 < gi cl j ∧ gi ca j < farT)
  | 0, _, j, hj => by omega
  | k + 1, h, j, hj => by
    simp only [bestT] at h
    split at h
    · omega
    · rename_i h1
      rcases Nat.lt_succ_iff_lt_or_eq.1 hj with hj | rfl
      · exact bestT_neg cl ca k h j hj
      · exact fun h2 => h1 ⟨h2.1, h2.2, .inl h⟩
/-- the plan changed along the chain back from a column -/
def chainT (rf cf : List Int) : Nat → Nat → Tbl → Option Tbl
  | 0, _, _ => none
  | F + 1, j, P => if gi rf (gi cf j).toNat < 0 then some (addP P (gi cf j).toNat j 1) else chainT rf cf F (gi rf (gi cf j).toNat).toNat (addP (addP P (gi cf j).toNat j 1) (gi cf j).toNat (gi rf (gi cf j).toNat).toNat (-1))
theorem chain_said {n m : Nat} {c : Nat → Nat → Int} {W : Int} {st : NS} {lb : Lb Int} (hr : RelT n m st lb) {r : Nat} (hrn : r < n) : ∀ (F j : Nat) (l : List Int) (P : Tbl), Chn (netT n m c W).arcs lb.by_ (n + j) l r → j < m → l.length ≤ 2 * F → ShapeT n m P →
    ∃ P', chainT st.rf st.cf F j P = some P' ∧ ShapeT n m P' ∧ flowT m (tg P') = turnsG (flowT m (tg P)) l
  | 0, j, l, P, hc, hj, hl, hP => by
    have : l = [] := List.length_eq_zero_iff.1 (by omega)
    subst this
    cases hc
    omega
  | F + 1, j, l, P, hc, hj, hl, hP => by
    cases hc with
    | nil h => omega
    | @cons _ s l' _ h1 h2 =>
      rcases hr.cf j hj with h | ⟨i, hi, e1, e2⟩
      · rw [h] at h1; simp at h1
      · rw [e2] at h1
        injection h1 with h1
        subst h1
        obtain ⟨a1, a2, a3⟩ := arc_pos (n := n) (c := c) (W := W) (i := i) hj
        rw [a1] at h2
        have hsh := addP_shape (j := j) hP hi 1
        have ht := turn_add (s := ((i * m + j : Nat) : Int) + 1) hP hi hj (eNo_pos _)
        rw [show sg (((i * m + j : Nat) : Int) + 1) = 1 by unfold sg; rw [if_neg (by omega)]] at ht
        simp only [chainT]
        rw [e1, Int.toNat_natCast]
        rcases hr.rf i hi with ⟨f1, f2⟩ | ⟨j', hj', f1, f2⟩
        · cases h2 with
          | nil _ =>
            rw [f1, if_pos (by omega)]
            refine ⟨_, rfl, hsh, ?_⟩
            rw [← ht]; rfl
          | cons g1 _ => rw [f2] at g1; simp at g1
        · cases h2 with
          | nil g => rw [f2] at g; simp at g
          | @cons _ s2 l2 _ g1 g2 =>
            rw [f2] at g1
            injection g1 with g1
            subst g1
            obtain ⟨b1, b2, b3⟩ := arc_neg (n := n) (c := c) (W := W) (i := i) hj'
            rw [b1] at g2
            have hsh2 := addP_shape (j := j') hsh hi (-1)
            have ht2 := turn_add (s := -((i * m + j' : Nat) : Int) - 1) hsh hi hj' (eNo_neg _)
            rw [show sg (-((i * m + j' : Nat) : Int) - 1) = -1 by unfold sg; rw [if_pos (by omega)]] at ht2
            obtain ⟨P', p1, p2, p3⟩ := chain_said hr hrn F j' l2 _ g2 hj' (by simp at hl; omega) hsh2
            rw [f1, Int.toNat_natCast, if_neg (by omega)]
            refine ⟨P', p1, p2, ?_⟩
            rw [p3, ← ht2, ← ht]; rfl
theorem turnsG_le : ∀ (l : List Int) (f : Nat → Int) (k : Nat), turnsG f l k ≤ f k + l.length
  | [], f, k => by simp [turnsG]
  | s :: l, f, k => by
    have h := turnsG_le l (turnG f s) k
    unfold turnsG at h ⊢
    rw [List.foldl_cons]
    have : turnG f s k ≤ f k + 1 := by
      unfold turnG upd sg
      split
      · rename_i e; subst e; split <;> omega
      · omega
    simp only [List.length_cons]; omega
theorem PartT.le {n m : Nat} {c : Nat → Nat → Int} {a b : Nat → Int} {P : Nat → Nat → Int} (h : PartT n m c a b P) {i j : Nat} (hi : i < n) (hj : j < m) : P i j ≤ a i := by
  have := sumN_term (f := P i) (n := m) (fun q hq => h.pos i q hi hq) hj
  have := h.rows i hi
  omega
/-- what Next finds: nothing is left, or a chain along which one unit more goes -/
theorem next_said {n m : Nat} {c : Nat → Nat → Int} {a b : List Int} {P : Tbl} (hn : n ≤ 5) (hm : m ≤ 5) (hc : ∀ i j, i < n → j < m → 0 ≤ c i j ∧ c i j ≤ 99) (hal : a.length = n) (hbl : b.length = m) (ha : ∀ i, i < n → gi a i ≤ 1000) (hsum : sumN (gi a) n = sumN (gi b) m) (hP : ShapeT n m P) (h : PartT n m c (gi a) (gi b) (tg P)) :
    (bestT (leftC b P n) (reachT c (tg P) n m (firstT (leftR a P m) m) (n + m)).ca m < 0 ∧ PlanT n m (gi a) (gi b) (tg P)) ∨
    ∃ p : Nat, p < m ∧ bestT (leftC b P n) (reachT c (tg P) n m (firstT (leftR a P m) m) (n + m)).ca m = p ∧
      ∃ P', chainT (reachT c (tg P) n m (firstT (leftR a P m) m) (n + m)).rf (reachT c (tg P) n m (firstT (leftR a P m) m) (n + m)).cf 5 p P = some P' ∧ ShapeT n m P' ∧ PartT n m c (gi a) (gi b) (tg P') ∧ colsLeft n m (gi b) (tg P') = colsLeft n m (gi b) (tg P) - 1 ∧ 0 < colsLeft n m (gi b) (tg P) := by
  have hb1 : ∀ i j, i < n → j < m → tg P i j ≤ 1000 := fun i j hi hj => by have := h.le hi hj; have := ha i hi; omega
  have hS := part_ship (W := 1000000) (fun i j hi hj => by have := hb1 i j hi hj; omega) h
  have hG := netT_fine n m c 1000000
  have hL : (netT n m c 1000000).Steps (flowT m (tg P)) (stepsT (flowT m (tg P)) (n * m)) := stepsT_steps fun k hk => by
    obtain ⟨d1, d2, _⟩ := at_div hk
    have := hb1 _ _ d1 d2
    unfold flowT; omega
  have hin := steps_in hG hL
  obtain ⟨p, hp⟩ := hS.pot
  have hpot := pot_of hL hp
  have hlr : (leftR a P m).length = n := by rw [leftR_len, hal]
  have hgr : ∀ i, i < n → gi (leftR a P m) i = gi a i - sumN (tg P i) m := fun i hi => gi_leftR (by omega)
  have hgc : ∀ j, j < m → gi (leftC b P n) j = gi b j - sumN (fun i => tg P i j) n := fun j hj => gi_leftC (by omega)
  have hE := reach_end (A := (netT n m c 1000000).arcs) (far := farT) (first := firstF (leftR a P m) n) hin hpot (fun v hv => by unfold firstF farT; split <;> (try split) <;> omega) 0
  have hR := rel_reach (c := c) (P := tg P) (W := 1000000) (first_rel (m := m) hlr 0) (n + m)
  generalize (netT n m c 1000000).arcs.reach farT (stepsT (flowT m (tg P)) (n * m)) ⟨firstF (leftR a P m) n, fun _ => none, 0⟩ (n + m) = lb at *
  generalize reachT c (tg P) n m (firstT (leftR a P m) m) (n + m) = st at *
  have hln : ∀ s ∈ stepsT (flowT m (tg P)) (n * m), -99 ≤ (netT n m c 1000000).arcs.ln s ∧ (netT n m c 1000000).arcs.ln s ≤ 99 := fun s hs => by
    have h1 := eNo_lt (G := netT n m c 1000000) ((hL s).1 hs).1
    obtain ⟨d1, d2, _⟩ := at_div (show eNo s < n * m from h1)
    have := hc _ _ d1 d2
    simp only [NetG.arcs, netT]
    split <;> omega
  have hleft : ∀ i, i < n → 0 ≤ gi a i - sumN (tg P i) m := fun i hi => by have := h.rows i hi; omega
  have hleft2 : ∀ j, j < m → 0 ≤ gi b j - sumN (fun i => tg P i j) n := fun j hj => by have := h.cols j hj; omega
  by_cases hb : bestT (leftC b P n) st.ca m < 0
  · left
    refine ⟨hb, h.full hsum fun j hj h0 => ?_⟩
    have h1 := bestT_neg _ _ m hb j hj
    rw [hgc j hj] at h1
    -- something is left of a row, too
    have h2 : ∃ i, i < n ∧ 0 < gi a i - sumN (tg P i) m := Classical.byContradiction fun hno => by
      have z1 : sumN (fun i => gi a i - sumN (tg P i) m) n = 0 := by
        rw [sumN_congr (g := fun _ => 0) (fun i hi => by have := hleft i hi; have : ¬ 0 < gi a i - sumN (tg P i) m := fun h3 => hno ⟨i, hi, h3⟩; omega), sumN_zero]
      have z2 := sumN_add (fun i => gi a i - sumN (tg P i) m) (fun i => sumN (tg P i) m) n
      rw [sumN_congr (g := gi a) (fun i _ => by omega), total_rows] at z2
      have z3 := sumN_add (fun j => gi b j - sumN (fun i => tg P i j) n) (fun j => sumN (fun i => tg P i j) n) m
      rw [sumN_congr (g := gi b) (fun i _ => by omega)] at z3
      have z4 := sumN_term (f := fun j => gi b j - sumN (fun i => tg P i j) n) (n := m) hleft2 hj
      omega
    obtain ⟨i, hi, h3⟩ := h2
    refine h1 ⟨h0, ?_⟩
    rw [hR.ca j hj]
    have e1 := hE.le i (by omega)
    have e2 : firstF (leftR a P m) n i = 0 := by unfold firstF; rw [if_pos hi, if_neg]; rw [hgr i hi]; omega
    obtain ⟨a1, a2, a3⟩ := arc_pos (n := n) (c := c) (W := 1000000) (i := i) hj
    have hmem : (((i * m + j : Nat) : Int) + 1) ∈ stepsT (flowT m (tg P)) (n * m) := by
      rw [stepsT_mem]
      have := lt_at hi hj
      exact ⟨⟨by omega, by omega⟩, fun hh => by omega⟩
    have e3 := hE.sat _ hmem
    rw [a1, a2, a3] at e3
    have e4 := hc i j hi hj
    have := e3 (by unfold farT; omega)
    unfold farT
    omega
  · right
    have hbd := bestT_bd (leftC b P n) st.ca m
    obtain ⟨q, hq⟩ := Int.eq_ofNat_of_zero_le (show 0 ≤ bestT (leftC b P n) st.ca m by omega)
    have hqm : q < m := by omega
    obtain ⟨hb3, hb4⟩ := bestT_pos _ _ m q hq
    rw [hgc q hqm] at hb3
    rw [hR.ca q hqm] at hb4
    obtain ⟨cc, r, g1, g2, g3, g4, g5⟩ := ship_more hG hS hL hpot hE (K := 99) (by omega) hln (by unfold farT; omega) (fun v hv => by
      by_cases hv' : v < n
      · unfold firstF
        rw [if_pos hv', if_pos hv', hgr v hv']
        have := hleft v hv'
        split
        · exact .inl rfl
        · exact .inr ⟨rfl, by omega⟩
      · unfold firstF; rw [if_neg hv']; exact .inl rfl) (best := n + q) (by omega) hb4
    have hrn : r < n := Classical.byContradiction fun hh => by
      rw [if_neg hh] at g3
      have := hleft2 (r - n) (by omega)
      omega
    obtain ⟨P', p1, p2, p3⟩ := chain_said (c := c) (W := 1000000) hR hrn 5 q cc P g1 hqm (by omega) hP
    rw [← p3] at g5
    have hW' : ∀ i j, i < n → j < m → tg P' i j < 1000000 := fun i j hi hj => by
      have h1 := turnsG_le cc (flowT m (tg P)) (i * m + j)
      rw [← p3] at h1
      obtain ⟨d1, d2⟩ := div_at (i := i) hj
      unfold flowT at h1
      rw [d1, d2] at h1
      have := hb1 i j hi hj
      omega
    have hone : ∀ j, j < m → (if n + j < n then gi a (n + j) - sumN (tg P (n + j)) m else -(gi b (n + j - n) - sumN (fun i => tg P i (n + j - n)) n)) + one (n + q) (n + j) - one r (n + j) = -(gi b j - sumN (fun i => tg P i j) n) + one q j := fun j hj => by
      rw [if_neg (by omega), show n + j - n = j by omega]
      have e1 : one r (n + j) = 0 := by unfold one; rw [if_neg (by omega)]
      have e2 : one (n + q) (n + j) = one q j := by
        unfold one
        by_cases h : q = j
        · rw [if_pos h, if_pos (by omega)]
        · rw [if_neg h, if_neg (by omega)]
      rw [e1, e2]; omega
    have hpart := ship_part g5 hW' (a := gi a) (b := gi b) (fun i hi => by rw [if_pos hi]) (fun j hj => by rw [if_neg (by omega), show n + j - n = j by omega]) (fun i hi => by
      rw [if_pos hi]
      have e1 : one (n + q) i = 0 := by unfold one; rw [if_neg (by omega)]
      have := hleft i hi
      rw [e1]
      unfold one
      split
      · rename_i e; subst e; rw [if_pos hrn] at g3; omega
      · omega) (fun j hj => by
      rw [hone j hj]
      have := hleft2 j hj
      unfold one
      split
      · rename_i e; subst e; omega
      · omega)
    refine ⟨q, hqm, hq, P', p1, p2, hpart, ?_, ?_⟩
    · unfold colsLeft
      have key : ∀ j, j < m → gi b j - sumN (fun i => tg P' i j) n = (gi b j - sumN (fun i => tg P i j) n) + (-1) * (1 * one q j) := fun j hj => by
        have h1 := g5.out (n + j) (by omega)
        rw [out_col hj, hone j hj] at h1
        rw [if_neg (by omega), show n + j - n = j by omega] at h1
        omega
      rw [sumN_congr key, sumN_add, sumN_mul, sum_one (fun _ => 1) hqm]
      omega
    · have := sumN_term (f := fun j => gi b j - sumN (fun i => tg P i j) n) (n := m) hleft2 hqm
      unfold colsLeft
      omega
end Go.Proofs.Ytaidoaggmllcfaa
/- Plain words of a transport: the prices that rounds make. No program in sight. -/
namespace Go.Proofs.Ytaidoaggmllcfaa

structure PS where
  rs : List Int
  cs : List Int
def stepC (c : Int) (i j : Nat) (st : PS) : PS := ⟨st.rs, st.cs.set j (min (gi st.cs j) (c - gi st.rs i))⟩
def stepD (c p : Int) (i j : Nat) (st : PS) : PS := if 0 < p then ⟨st.rs.set i (max (gi st.rs i) (c - gi st.cs j)), st.cs⟩ else st
def pairP (c P : Nat → Nat → Int) (m k : Nat) (st : PS) : PS := stepD (c (k / m) (k % m)) (P (k / m) (k % m)) (k / m) (k % m) (stepC (c (k / m) (k % m)) (k / m) (k % m) st)
def relP (c P : Nat → Nat → Int) (m : Nat) (st : PS) : Nat → PS
  | 0 => st
  | k + 1 => pairP c P m k (relP c P m st k)
def reachP (c P : Nat → Nat → Int) (n m : Nat) (st : PS) : Nat → PS
  | 0 => st
  | r + 1 => relP c P m (reachP c P n m st r) (n * m)
theorem relP_at {c P : Nat → Nat → Int} {m i j : Nat} (hj : j < m) (st : PS) : relP c P m st (i * m + (j + 1)) = stepD (c i j) (P i j) i j (stepC (c i j) i j (relP c P m st (i * m + j))) := by
  obtain ⟨h1, h2⟩ := div_at (i := i) hj
  show pairP c P m (i * m + j) (relP c P m st (i * m + j)) = _
  unfold pairP
  rw [h1, h2]
structure PsOk (n m : Nat) (k : Nat) (st : PS) : Prop where
  l1 : st.rs.length = n
  l2 : st.cs.length = m
  b1 : ∀ i, -((k : Int) * 99) ≤ gi st.rs i ∧ gi st.rs i ≤ (k : Int) * 99
  b2 : ∀ j, -((k : Int) * 99) ≤ gi st.cs j ∧ gi st.cs j ≤ (k : Int) * 99
theorem PsOk.mono {n m k k' : Nat} {st : PS} (h : PsOk n m k st) (hk : k ≤ k') : PsOk n m k' st :=
  ⟨h.l1, h.l2, fun i => by have := h.b1 i; omega, fun i => by have := h.b2 i; omega⟩
theorem stepC_ok {n m k i j : Nat} {c : Int} {st : PS} (h : PsOk n m k st) (hc : 0 ≤ c ∧ c ≤ 99) (hj : j < m) : PsOk n m (k + 1) (stepC c i j st) := by
  unfold stepC
  have a1 := h.b1 i
  have a2 := h.b2 j
  refine ⟨h.l1, by rw [List.length_set]; exact h.l2, fun q => by have := h.b1 q; show -(((k + 1 : Nat) : Int) * 99) ≤ gi st.rs q ∧ gi st.rs q ≤ _; omega, fun q => ?_⟩
  show _ ≤ gi (st.cs.set _ _) q ∧ gi (st.cs.set _ _) q ≤ _
  rw [gi_set' _ _ _ (by rw [h.l2]; exact hj)]
  have := h.b2 q
  split <;> omega
theorem stepD_ok {n m k i j : Nat} {c p : Int} {st : PS} (h : PsOk n m k st) (hc : 0 ≤ c ∧ c ≤ 99) (hi : i < n) : PsOk n m (k + 1) (stepD c p i j st) := by
  unfold stepD
  split
  · have a1 := h.b1 i
    have a2 := h.b2 j
    refine ⟨by rw [List.length_set]; exact h.l1, h.l2, fun q => ?_, fun q => by have := h.b2 q; show -(((k + 1 : Nat) : Int) * 99) ≤ gi st.cs q ∧ gi st.cs q ≤ _; omega⟩
    show _ ≤ gi (st.rs.set _ _) q ∧ gi (st.rs.set _ _) q ≤ _
    rw [gi_set' _ _ _ (by rw [h.l1]; exact hi)]
    have := h.b1 q
    split <;> omega
  · exact h.mono (by omega)
theorem relP_ok {n m k : Nat} {c P : Nat → Nat → Int} {st : PS} (h : PsOk n m k st) (hc : ∀ i j, i < n → j < m → 0 ≤ c i j ∧ c i j ≤ 99) : ∀ q, q ≤ n * m → PsOk n m (k + 2 * q) (relP c P m st q)
  | 0, _ => h
  | q + 1, hq => by
    obtain ⟨h1, h2, _⟩ := at_div (show q < n * m by omega)
    exact (stepD_ok (stepC_ok (relP_ok h hc q (by omega)) (hc _ _ h1 h2) h2) (hc _ _ h1 h2) h1).mono (by omega)
theorem reachP_ok {n m : Nat} {c P : Nat → Nat → Int} {st : PS} (h : PsOk n m 0 st) (hc : ∀ i j, i < n → j < m → 0 ≤ c i j ∧ c i j ≤ 99) (hn : n ≤ 5) (hm : m ≤ 5) : ∀ r, PsOk n m (50 * r) (reachP c P n m st r)
  | 0 => h
  | r + 1 => (relP_ok (reachP_ok h hc hn hm r) hc _ (Nat.le_refl _)).mono (by have := area_le hn hm; omega)
theorem zeroP_ok (n m : Nat) : PsOk n m 0 ⟨List.replicate n 0, List.replicate m 0⟩ := by
  have key : ∀ k i : Nat, gi (List.replicate k 0) i = 0 := fun k i => by unfold gi; rw [List.getElem?_replicate]; split <;> rfl
  exact ⟨by simp, by simp, fun i => by show _ ≤ gi (List.replicate n 0) i ∧ gi (List.replicate n 0) i ≤ _; rw [key]; omega, fun i => by show _ ≤ gi (List.replicate m 0) i ∧ gi (List.replicate m 0) i ≤ _; rw [key]; omega⟩
structure RelP (n m : Nat) (st : PS) (lb : Lb Int) : Prop where
  l1 : st.rs.length = n
  l2 : st.cs.length = m
  rs : ∀ i, i < n → gi st.rs i = -lb.at_ i
  cs : ∀ j, j < m → gi st.cs j = lb.at_ (n + j)
section
variable {n m i j : Nat} {c P : Nat → Nat → Int} {W : Int} {st : PS} {lb : Lb Int}
theorem relC (h : RelP n m st lb) (h0 : ∀ v, lb.at_ v ≤ 0) (hi : i < n) (hj : j < m) : RelP n m (stepC (c i j) i j st) ((netT n m c W).arcs.relax farT lb (((i * m + j : Nat) : Int) + 1)) := by
  obtain ⟨e1, e2, e3⟩ := arc_pos (n := n) (c := c) (W := W) (i := i) hj
  have a1 := h.rs i hi
  have a2 := h.cs j hj
  have a3 := h0 i
  have hco : (netT n m c W).arcs.Cond farT lb (((i * m + j : Nat) : Int) + 1) ↔ c i j - gi st.rs i < gi st.cs j := by
    unfold Arcs.Cond farT
    rw [e1, e2, e3]; omega
  unfold stepC Arcs.relax
  refine ⟨h.l1, by rw [List.length_set]; exact h.l2, fun q hq => ?_, fun q hq => ?_⟩
  · split
    · unfold Arcs.put
      show gi st.rs q = -upd lb.at_ _ _ q
      rw [upd_ne (by rw [e2]; omega)]; exact h.rs q hq
    · exact h.rs q hq
  · show gi (st.cs.set _ _) q = _
    rw [gi_set' _ _ _ (by rw [h.l2]; exact hj)]
    by_cases hc : (netT n m c W).arcs.Cond farT lb (((i * m + j : Nat) : Int) + 1)
    · rw [if_pos hc]
      rw [hco] at hc
      unfold Arcs.put
      show _ = upd lb.at_ _ _ (n + q)
      rw [e1, e2, e3]
      by_cases e : q = j
      · subst e; rw [if_pos rfl, upd_same]; omega
      · rw [if_neg e, upd_ne (by omega)]; exact h.cs q hq
    · rw [if_neg hc]
      rw [hco] at hc
      by_cases e : q = j
      · subst e; rw [if_pos rfl]; omega
      · rw [if_neg e]; exact h.cs q hq
theorem relD (h : RelP n m st lb) (h0 : ∀ v, lb.at_ v ≤ 0) (hi : i < n) (hj : j < m) {p : Int} (hp : 0 < p) : RelP n m (stepD (c i j) p i j st) ((netT n m c W).arcs.relax farT lb (-((i * m + j : Nat) : Int) - 1)) := by
  obtain ⟨e1, e2, e3⟩ := arc_neg (n := n) (c := c) (W := W) (i := i) hj
  have a1 := h.rs i hi
  have a2 := h.cs j hj
  have a3 := h0 (n + j)
  have hco : (netT n m c W).arcs.Cond farT lb (-((i * m + j : Nat) : Int) - 1) ↔ gi st.rs i < c i j - gi st.cs j := by
    unfold Arcs.Cond farT
    rw [e1, e2, e3]; omega
  unfold stepD Arcs.relax
  rw [if_pos hp]
  refine ⟨by rw [List.length_set]; exact h.l1, h.l2, fun q hq => ?_, fun q hq => ?_⟩
  · show gi (st.rs.set _ _) q = _
    rw [gi_set' _ _ _ (by rw [h.l1]; exact hi)]
    by_cases hc : (netT n m c W).arcs.Cond farT lb (-((i * m + j : Nat) : Int) - 1)
    · rw [if_pos hc]
      rw [hco] at hc
      unfold Arcs.put
      show _ = -upd lb.at_ _ _ q
      rw [e1, e2, e3]
      by_cases e : q = i
      · subst e; rw [if_pos rfl, upd_same]; omega
      · rw [if_neg e, upd_ne e]; exact h.rs q hq
    · rw [if_neg hc]
      rw [hco] at hc
      by_cases e : q = i
      · subst e; rw [if_pos rfl]; omega
      · rw [if_neg e]; exact h.rs q hq
  · split
    · unfold Arcs.put
      show gi st.cs q = upd lb.at_ _ _ (n + q)
      rw [upd_ne (by rw [e2]; omega)]; exact h.cs q hq
    · exact h.cs q hq
theorem fold_le0 (L : List Int) (h0 : ∀ v, lb.at_ v ≤ 0) : ∀ v, (L.foldl ((netT n m c W).arcs.relax farT) lb).at_ v ≤ 0 := fun v => Int.le_trans (fold_le L lb v) (h0 v)
theorem relP_round (h : RelP n m st lb) (h0 : ∀ v, lb.at_ v ≤ 0) : ∀ K, K ≤ n * m → RelP n m (relP c P m st K) ((stepsT (flowT m P) K).foldl ((netT n m c W).arcs.relax farT) lb)
  | 0, _ => h
  | K + 1, hK => by
    obtain ⟨d1, d2, d3⟩ := at_div (show K < n * m by omega)
    have h2 := fold_le0 (n := n) (m := m) (c := c) (W := W) (stepsT (flowT m P) K) h0
    have h1 := relC (c := c) (W := W) (relP_round h h0 K (by omega)) h2 d1 d2
    have h3 : ∀ v, ((netT n m c W).arcs.relax farT ((stepsT (flowT m P) K).foldl ((netT n m c W).arcs.relax farT) lb) (((K / m * m + K % m : Nat) : Int) + 1)).at_ v ≤ 0 := fun v => Int.le_trans (relax_le _ _ v) (h2 v)
    simp only [stepsT, List.foldl_append, List.foldl_cons]
    show RelP n m (stepD _ _ _ _ (stepC _ _ _ _)) _
    by_cases h4 : 0 < flowT m P K
    · rw [if_pos h4]
      have h5 := relD (c := c) (W := W) h1 h3 d1 d2 (p := P (K / m) (K % m)) h4
      rw [d3] at h5
      exact h5
    · rw [if_neg h4]
      rw [d3] at h1
      unfold stepD
      rw [if_neg (show ¬ 0 < P (K / m) (K % m) from h4)]
      exact h1
theorem relP_reach (h : RelP n m st lb) (h0 : ∀ v, lb.at_ v ≤ 0) : ∀ r, RelP n m (reachP c P n m st r) ((netT n m c W).arcs.reach farT (stepsT (flowT m P) (n * m)) lb r)
  | 0 => h
  | r + 1 => by
    have h1 := relP_reach h h0 r
    have h2 : ∀ v, ((netT n m c W).arcs.reach farT (stepsT (flowT m P) (n * m)) lb r).at_ v ≤ 0 := fun v => Int.le_trans (reach_le _ _ v r) (h0 v)
    exact relP_round (lb := { (netT n m c W).arcs.reach farT (stepsT (flowT m P) (n * m)) lb r with last := -1 }) ⟨h1.l1, h1.l2, h1.rs, h1.cs⟩ h2 (n * m) (Nat.le_refl _)
end
/-- prices that hold, and are tight where a plan moves -/
def PotT (n m : Nat) (c P : Nat → Nat → Int) (u v : Nat → Int) : Prop := ∀ i j, i < n → j < m → u i + v j ≤ c i j ∧ (0 < P i j → u i + v j = c i j)
def pricesT (c P : Nat → Nat → Int) (n m : Nat) : PS := reachP c P n m ⟨List.replicate n 0, List.replicate m 0⟩ (n + m)
/-- what Prices hands back -/
theorem prices_said {n m : Nat} {c P : Nat → Nat → Int} {a b : Nat → Int} (hn : n ≤ 5) (hm : m ≤ 5) (hc : ∀ i j, i < n → j < m → 0 ≤ c i j ∧ c i j ≤ 99) (ha : ∀ i, i < n → a i ≤ 1000) (h : PartT n m c a b P) :
    PotT n m c P (gi (pricesT c P n m).rs) (gi (pricesT c P n m).cs) ∧ (pricesT c P n m).rs.length = n ∧ (pricesT c P n m).cs.length = m ∧ (∀ i, i < n → -1000 ≤ gi (pricesT c P n m).rs i ∧ gi (pricesT c P n m).rs i ≤ 1000) ∧ (∀ j, j < m → -1000 ≤ gi (pricesT c P n m).cs j ∧ gi (pricesT c P n m).cs j ≤ 1000) := by
  have hb1 : ∀ i j, i < n → j < m → P i j ≤ 1000 := fun i j hi hj => by have := h.le hi hj; have := ha i hi; omega
  have hS := part_ship (W := 1000000) (fun i j hi hj => by have := hb1 i j hi hj; omega) h
  have hG := netT_fine n m c 1000000
  have hL : (netT n m c 1000000).Steps (flowT m P) (stepsT (flowT m P) (n * m)) := stepsT_steps fun k hk => by
    obtain ⟨d1, d2, _⟩ := at_div hk
    have := hb1 _ _ d1 d2
    unfold flowT; omega
  have hin := steps_in hG hL
  obtain ⟨p, hp⟩ := hS.pot
  have hpot := pot_of hL hp
  have hE := reach_end (A := (netT n m c 1000000).arcs) (far := farT) (first := fun _ => 0) hin hpot (fun v hv => by unfold farT; omega) 0
  have key : ∀ k i : Nat, gi (List.replicate k 0) i = 0 := fun k i => by unfold gi; rw [List.getElem?_replicate]; split <;> rfl
  have hR : RelP n m (pricesT c P n m) _ := relP_reach (c := c) (P := P) (W := 1000000) (st := ⟨List.replicate n 0, List.replicate m 0⟩) (lb := ⟨fun _ => 0, fun _ => none, 0⟩) (n := n) (m := m) ⟨by simp, by simp, fun i _ => by show gi (List.replicate n 0) i = -0; rw [key]; rfl, fun j _ => by show gi (List.replicate m 0) j = 0; rw [key]⟩ (fun v => Int.le_refl _) (n + m)
  generalize (netT n m c 1000000).arcs.reach farT (stepsT (flowT m P) (n * m)) ⟨fun _ => 0, fun _ => none, 0⟩ (n + m) = lb at *
  generalize pricesT c P n m = st at *
  have hln : ∀ s ∈ stepsT (flowT m P) (n * m), -99 ≤ (netT n m c 1000000).arcs.ln s ∧ (netT n m c 1000000).arcs.ln s ≤ 99 := fun s hs => by
    have h1 := eNo_lt (G := netT n m c 1000000) ((hL s).1 hs).1
    obtain ⟨d1, d2, _⟩ := at_div (show eNo s < n * m from h1)
    have := hc _ _ d1 d2
    simp only [NetG.arcs, netT]
    split <;> omega
  have hbd : ∀ v, v < n + m → -1000 ≤ lb.at_ v ∧ lb.at_ v ≤ 1000 := fun v hv => by
    obtain ⟨r, r1, r2, r3, r4, r5, r6⟩ := hE.bd hin (K := 99) (by omega) hln hv
    omega
  refine ⟨fun i j hi hj => ?_, hR.l1, hR.l2, fun i hi => by rw [hR.rs i hi]; have := hbd i (by omega); omega, fun j hj => by rw [hR.cs j hj]; have := hbd (n + j) (by omega); omega⟩
  rw [hR.rs i hi, hR.cs j hj]
  have hk := lt_at hi hj
  have q1 := hbd i (by omega)
  have q2 := hbd (n + j) (by omega)
  constructor
  · obtain ⟨a1, a2, a3⟩ := arc_pos (n := n) (c := c) (W := 1000000) (i := i) hj
    have e3 := hE.sat _ ((stepsT_mem _ _ _).2 ⟨⟨by omega, by omega⟩, fun hh => by omega⟩ : (((i * m + j : Nat) : Int) + 1) ∈ stepsT (flowT m P) (n * m))
    rw [a1, a2, a3] at e3
    have := e3 (by unfold farT; omega)
    omega
  · intro h0
    obtain ⟨a1, a2, a3⟩ := arc_neg (n := n) (c := c) (W := 1000000) (i := i) hj
    obtain ⟨d1, d2⟩ := div_at (i := i) hj
    have e3 := hE.sat _ ((stepsT_mem _ _ _).2 ⟨⟨by omega, by omega⟩, fun hh => by rw [eNo_neg]; unfold flowT; rw [d1, d2]; exact h0⟩ : (-((i * m + j : Nat) : Int) - 1) ∈ stepsT (flowT m P) (n * m))
    rw [a1, a2, a3] at e3
    have e4 := e3 (by unfold farT; omega)
    obtain ⟨a1, a2, a3⟩ := arc_pos (n := n) (c := c) (W := 1000000) (i := i) hj
    have e5 := hE.sat _ ((stepsT_mem _ _ _).2 ⟨⟨by omega, by omega⟩, fun hh => by omega⟩ : (((i * m + j : Nat) : Int) + 1) ∈ stepsT (flowT m P) (n * m))
    rw [a1, a2, a3] at e5
    have := e5 (by unfold farT; omega)
    omega
end Go.Proofs.Ytaidoaggmllcfaa
