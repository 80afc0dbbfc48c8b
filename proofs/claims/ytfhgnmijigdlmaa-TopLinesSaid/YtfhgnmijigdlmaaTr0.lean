/- Plain words of a net and of a transport: OwnG GA GB GC GD TA. -/
import Derived.Test.YtfhgnmijigdlmaaPA
import Derived.Test.YtfhgnmijigdlmaaApp0
import Derived.Test.YtfhgnmijigdlmaaT2
namespace Go.Proofs.Ytfhgnmijigdlmaa.Tr
open Go.RowKit
/- A list of numbers in a block of the call's own, with its capacity; append of one number. -/

/-- a list of numbers (element type T) that lies in the block g, made since the world had the size B -/
def OwnG (W : World) (T : TypeId) (B g n cap : Nat) (l : List Int) : Prop := W.ownsRow B T 1 (.slice (some ⟨g, 0, none⟩) n cap) n (l.map (.int .i64))
section
variable {W X : World} {T : TypeId} {B g n cap : Nat} {l : List Int}
theorem OwnG.len (h : OwnG W T B g n cap l) : l.length = n := by have := h.1; simp at this; omega
theorem OwnG.slot (h : OwnG W T B g n cap l) : g < W.heap.size ∧ n ≤ cap ∧ B ≤ g := by
  rcases h.2 with ⟨e, _⟩ | ⟨g', cap', cur, e, hb, hg, h1, _⟩
  · simp at e
  · simp at e
    obtain ⟨rfl, rfl⟩ := e
    exact ⟨(Array.getElem?_eq_some_iff.1 hg).1, h1, hb⟩
theorem OwnG.cell {i : Nat} (h : OwnG W T B g n cap l) (hi : i < l.length) : W.cell? ⟨g, i, none⟩ = some (.int .i64 (l[i]?.getD 0)) := by
  refine (World.ownsRow.cellAt h i (by have := h.len; omega)).trans ?_
  rw [List.getElem?_map]; simp [hi]
theorem OwnG.store (h : OwnG W T B g n cap l) (i : Nat) (v : Int) : OwnG (W.setCell ⟨g, i, none⟩ (.int .i64 v)) T B g n cap (l.set i v) := by
  have hst := (World.ownsRow.stored h i (.int .i64 v)).1
  rw [← List.map_set] at hst
  exact hst
theorem OwnG.ext (h : OwnG W T B g n cap l) (hE : Ext W X) : OwnG X T B g n cap l := row_ext h hE
theorem OwnG.froz (h : OwnG W T B g n cap l) (i : Nat) : W.frozen? ⟨g, i, none⟩ = false := World.ownsRow.frozenAt h i
theorem OwnG.other {g' : Nat} (h : OwnG W T B g n cap l) (hne : g' ≠ g) (i : Nat) (u : Value) : OwnG (W.setCell ⟨g', i, none⟩ u) T B g n cap l :=
  row_set_other h (by simpa [Value.ownBlock] using hne) i u
theorem OwnG.ints (h : OwnG W T B g n cap l) : Ints W (some ⟨g, 0, none⟩) l := fun j hj => ⟨g, 0, rfl, h.slot.1, by rw [Nat.zero_add]; exact h.cell hj⟩
theorem OwnG.base {B' : Nat} (h : OwnG W T B g n cap l) (hB : B' ≤ B) : OwnG W T B' g n cap l := row_base h hB
end
/-- out = append(out, x): one number -/
theorem wpList_push1 {P : Program} {ops : Array Oper} {rest : List Oper} {o : Oper} {a : Act} {Q : Exit → Act → World → Prop} {w : World} {T0 : TypeId} {i : TypeInfo} {x : Int} {v : Value} {k base : Nat} {xs : List Int} (hgd : o.guard = none) (s xx : Operand) (t : TypeId)
    (ho : o.op = .call { callee := .builtin .append, args := #[s, xx], argTypes := #[t, t] }) (hi : P.info? T0 = some i ∧ i.zero = some (.int .i64 0) ∧ i.size = 1 ∧ i.bytes = 8) (ht : P.underlying t = some (.slice T0))
    (hs : a.eval s = v) (hx : a.eval xx = .slice (some ⟨w.heap.size, 0, none⟩) 1 1) (hown : w.ownsRow base T0 1 v k (xs.map (.int .i64))) (hk : k ≤ 1000000) (hbase : base ≤ w.heap.size)
    (h : ∀ v' w', w'.ownsRow base T0 1 v' (k + 1) ((xs ++ [x]).map (.int .i64)) → (w.alloc (.cells #[.int .i64 x] T0)).grownBy w' v.ownBlock → (v'.ownBlock = v.ownBlock ∨ v'.ownBlock = some (w.alloc (.cells #[.int .i64 x] T0)).heap.size) → wpList P ops Q rest (a.put o.dst v') w') : wpList P ops Q (o :: rest) a (w.alloc (.cells #[.int .i64 x] T0)) := by
  obtain ⟨h2, h3, h4, h5⟩ := hi
  refine wpList_append_any _ hgd s xx t ho base T0 i (.int .i64 0) 1 8 ht h2 h3 h4 h5 rfl (by omega) v k _ hs (hown.alloc _) (w.heap.size + 1) (some ⟨w.heap.size, 0, none⟩) 1 1 [.int .i64 x] hx ⟨rfl, fun _ => ⟨_, rfl, ?_, fun j u' hj => ?_⟩⟩ (by simp [Value.oneCell']) (by unfold maxLen; omega) ?_ (by simp; omega) ?_
  · show w.heap.size < w.heap.size + 1; omega
  · match j, hj with
    | 0, hj => simp at hj; subst hj; rw [add_at]; simp
    | j + 1, hj => simp at hj
  · omega
  · intro v' w' h6 h7 h8
    exact h v' w' (by rw [List.map_append]; exact h6) h7 h8

/- Plain words of labels along arcs: what rounds of relaxing do. No program in sight. -/

structure Arcs (α : Type) where
  fr : α → Nat
  to : α → Nat
  ln : α → Int
structure Lb (α : Type) where
  at_ : Nat → Int
  by_ : Nat → Option α
  last : Int
def upd {β : Type} (f : Nat → β) (i : Nat) (v : β) : Nat → β := fun j => if j = i then v else f j
theorem upd_same {β : Type} (f : Nat → β) (i : Nat) (v : β) : upd f i v i = v := by simp [upd]
theorem upd_ne {β : Type} {f : Nat → β} {i j : Nat} {v : β} (h : j ≠ i) : upd f i v j = f j := by simp [upd, h]
def Arcs.Cond {α : Type} (A : Arcs α) (far : Int) (st : Lb α) (s : α) : Prop := st.at_ (A.fr s) < far ∧ st.at_ (A.fr s) + A.ln s < st.at_ (A.to s)
instance {α : Type} (A : Arcs α) (far : Int) (st : Lb α) (s : α) : Decidable (A.Cond far st s) := by unfold Arcs.Cond; exact inferInstance
def Arcs.put {α : Type} (A : Arcs α) (st : Lb α) (s : α) : Lb α := ⟨upd st.at_ (A.to s) (st.at_ (A.fr s) + A.ln s), upd st.by_ (A.to s) (some s), A.to s⟩
def Arcs.relax {α : Type} (A : Arcs α) (far : Int) (st : Lb α) (s : α) : Lb α := if A.Cond far st s then A.put st s else st
def Arcs.round {α : Type} (A : Arcs α) (far : Int) (L : List α) (st : Lb α) : Lb α := L.foldl (A.relax far) { st with last := -1 }
def Arcs.reach {α : Type} (A : Arcs α) (far : Int) (L : List α) (st : Lb α) : Nat → Lb α
  | 0 => st
  | n + 1 => A.round far L (A.reach far L st n)
def Arcs.In {α : Type} (A : Arcs α) (N : Nat) (L : List α) : Prop := ∀ s ∈ L, A.fr s < N ∧ A.to s < N
def Arcs.Pot {α : Type} (A : Arcs α) (L : List α) (p : Nat → Int) : Prop := ∀ s ∈ L, p (A.to s) ≤ A.ln s + p (A.fr s)
def Arcs.Sat {α : Type} (A : Arcs α) (far : Int) (L : List α) (at_ : Nat → Int) : Prop := ∀ s ∈ L, at_ (A.fr s) < far → at_ (A.to s) ≤ at_ (A.fr s) + A.ln s
section
variable {α : Type} {A : Arcs α} {far : Int}
theorem fold_inv {L : List α} (I : Lb α → Prop) (h : ∀ st s, s ∈ L → I st → I (A.relax far st s)) : ∀ {st}, I st → I (L.foldl (A.relax far) st) := by
  induction L with
  | nil => intro st h1; exact h1
  | cons s l ih =>
    intro st h1
    rw [List.foldl_cons]
    exact ih (fun st t ht => h st t (List.mem_cons_of_mem _ ht)) (h st s List.mem_cons_self h1)
theorem fold_done {L : List α} (I : Lb α → Prop) (D : α → Lb α → Prop) (h : ∀ st s, s ∈ L → I st → I (A.relax far st s) ∧ D s (A.relax far st s)) (h2 : ∀ st s t, s ∈ L → t ∈ L → I st → D t st → D t (A.relax far st s)) :
    ∀ {st}, I st → I (L.foldl (A.relax far) st) ∧ ∀ s ∈ L, D s (L.foldl (A.relax far) st) := by
  have key : ∀ (l done : List α), (∀ s ∈ l, s ∈ L) → (∀ s ∈ done, s ∈ L) → ∀ st, I st → (∀ s ∈ done, D s st) → I (l.foldl (A.relax far) st) ∧ ∀ s, s ∈ done ∨ s ∈ l → D s (l.foldl (A.relax far) st) := by
    intro l
    induction l with
    | nil => intro done _ _ st h3 h4; exact ⟨h3, fun s hs => by rcases hs with hs | hs; exact h4 s hs; simp at hs⟩
    | cons s l ih =>
      intro done hl hd st h3 h4
      have hs := hl s List.mem_cons_self
      obtain ⟨h5, h6⟩ := h st s hs h3
      obtain ⟨h7, h8⟩ := ih (s :: done) (fun t ht => hl t (List.mem_cons_of_mem _ ht)) (fun t ht => by
        rcases List.mem_cons.1 ht with rfl | ht
        · exact hs
        · exact hd t ht) (A.relax far st s) h5 (fun t ht => by
        rcases List.mem_cons.1 ht with rfl | ht
        · exact h6
        · exact h2 st s t hs (hd t ht) h3 (h4 t ht))
      refine ⟨h7, fun t ht => h8 t ?_⟩
      rcases ht with ht | ht
      · exact .inl (List.mem_cons_of_mem _ ht)
      · rcases List.mem_cons.1 ht with rfl | ht
        · exact .inl List.mem_cons_self
        · exact .inr ht
  intro st h3
  obtain ⟨h4, h5⟩ := key L [] (fun _ h => h) (fun s hs => by simp at hs) st h3 (fun s hs => by simp at hs)
  exact ⟨h4, fun s hs => h5 s (.inr hs)⟩
theorem relax_le (st : Lb α) (s : α) (v : Nat) : (A.relax far st s).at_ v ≤ st.at_ v := by
  unfold Arcs.relax
  split
  · rename_i h
    simp only [Arcs.put, upd]
    split
    · rename_i e; subst e; have := h.2; omega
    · exact Int.le_refl _
  · exact Int.le_refl _
theorem fold_le (L : List α) (st : Lb α) (v : Nat) : (L.foldl (A.relax far) st).at_ v ≤ st.at_ v :=
  fold_inv (I := fun t => t.at_ v ≤ st.at_ v) (fun t s _ h => Int.le_trans (relax_le t s v) h) (Int.le_refl _)
theorem reach_le (L : List α) (st : Lb α) (v : Nat) : ∀ k, (A.reach far L st k).at_ v ≤ st.at_ v
  | 0 => Int.le_refl _
  | k + 1 => Int.le_trans (fold_le (far := far) (A := A) L { A.reach far L st k with last := -1 } v) (reach_le L st v k)
/-! a round that changes nothing -/
theorem relax_idle {st : Lb α} {s : α} (h : ¬ A.Cond far st s) : A.relax far st s = st := by unfold Arcs.relax; rw [if_neg h]
theorem fold_idle : ∀ {L : List α} {st : Lb α}, (∀ s ∈ L, ¬ A.Cond far st s) → L.foldl (A.relax far) st = st
  | [], _, _ => rfl
  | s :: l, st, h => by rw [List.foldl_cons, relax_idle (h s List.mem_cons_self)]; exact fold_idle (fun t ht => h t (List.mem_cons_of_mem _ ht))
theorem sat_idle {L : List α} {st : Lb α} (h : A.Sat far L st.at_) : A.round far L st = { st with last := -1 } := fold_idle fun s hs hc => by
  have h1 := hc.1
  have h2 := hc.2
  have := h s hs h1
  simp only at h2
  omega
theorem fold_last : ∀ {L : List α} {st : Lb α}, (L.foldl (A.relax far) st).last < 0 → st.last < 0 ∧ ∀ s ∈ L, ¬ A.Cond far st s
  | [], _, h => ⟨h, fun s hs => by simp at hs⟩
  | s :: l, st, h => by
    rw [List.foldl_cons] at h
    obtain ⟨h1, h2⟩ := fold_last h
    by_cases hc : A.Cond far st s
    · unfold Arcs.relax at h1
      rw [if_pos hc] at h1
      simp only [Arcs.put] at h1
      omega
    · rw [relax_idle hc] at h1 h2
      refine ⟨h1, fun t ht => ?_⟩
      rcases List.mem_cons.1 ht with rfl | ht
      · exact hc
      · exact h2 t ht
theorem last_sat {L : List α} {st : Lb α} (h : (A.round far L st).last < 0) : A.Sat far L st.at_ ∧ A.round far L st = { st with last := -1 } := by
  have h1 := (fold_last h).2
  refine ⟨fun s hs hf => ?_, fold_idle h1⟩
  have := h1 s hs
  unfold Arcs.Cond at this
  simp only [hf, true_and] at this
  omega
theorem sat_last {L : List α} {st : Lb α} (h : A.Sat far L st.at_) : (A.round far L st).last = -1 := by rw [sat_idle h]
/-! rounds end where there are prices -/
theorem range_len {N : Nat} {S : List Nat} (h1 : S.Nodup) (h2 : ∀ x ∈ S, x < N) : S.length ≤ N := by
  have := List.Nodup.length_le_of_subset h1 (l₂ := List.range N) (fun x hx => List.mem_range.2 (h2 x hx))
  rwa [List.length_range] at this
/-- the nodes S are settled -/
structure Settled (A : Arcs α) (far : Int) (N : Nat) (L : List α) (p : Nat → Int) (at_ : Nat → Int) (S : List Nat) : Prop where
  nd : S.Nodup
  lt : ∀ u ∈ S, u < N ∧ at_ u < far
  out : ∀ s ∈ L, A.fr s ∈ S → at_ (A.to s) ≤ at_ (A.fr s) + A.ln s
  low : ∀ u ∈ S, ∀ v, v ∉ S → v < N → at_ v < far → at_ u - p u ≤ at_ v - p v
theorem least_out {N : Nat} {S : List Nat} {p at_ : Nat → Int} (h : ∃ v, v < N ∧ v ∉ S ∧ at_ v < far) : ∃ v, (v < N ∧ v ∉ S ∧ at_ v < far) ∧ ∀ u, u < N → u ∉ S → at_ u < far → at_ v - p v ≤ at_ u - p u := by
  have key : ∀ k, (∀ u, u < k → u < N → u ∉ S → ¬ at_ u < far) ∨ ∃ v, (v < N ∧ v ∉ S ∧ at_ v < far) ∧ ∀ u, u < k → u < N → u ∉ S → at_ u < far → at_ v - p v ≤ at_ u - p u := by
    intro k
    induction k with
    | zero => exact .inl (fun u hu => by omega)
    | succ k ih =>
      by_cases hk : k < N ∧ k ∉ S ∧ at_ k < far
      · rcases ih with ih | ⟨v, hv, ih⟩
        · refine .inr ⟨k, hk, fun u hu h1 h2 h3 => ?_⟩
          rcases Nat.lt_succ_iff_lt_or_eq.1 hu with hu | rfl
          · exact absurd h3 (ih u hu h1 h2)
          · exact Int.le_refl _
        · by_cases hc : at_ v - p v ≤ at_ k - p k
          · refine .inr ⟨v, hv, fun u hu h1 h2 h3 => ?_⟩
            rcases Nat.lt_succ_iff_lt_or_eq.1 hu with hu | rfl
            · exact ih u hu h1 h2 h3
            · exact hc
          · refine .inr ⟨k, hk, fun u hu h1 h2 h3 => ?_⟩
            rcases Nat.lt_succ_iff_lt_or_eq.1 hu with hu | rfl
            · have := ih u hu h1 h2 h3; omega
            · exact Int.le_refl _
      · rcases ih with ih | ⟨v, hv, ih⟩
        · refine .inl fun u hu h1 h2 h3 => ?_
          rcases Nat.lt_succ_iff_lt_or_eq.1 hu with hu | rfl
          · exact ih u hu h1 h2 h3
          · exact hk ⟨h1, h2, h3⟩
        · refine .inr ⟨v, hv, fun u hu h1 h2 h3 => ?_⟩
          rcases Nat.lt_succ_iff_lt_or_eq.1 hu with hu | rfl
          · exact ih u hu h1 h2 h3
          · exact absurd ⟨h1, h2, h3⟩ hk
  obtain ⟨v, h1, h2, h3⟩ := h
  rcases key N with k | ⟨w, hw, k⟩
  · exact absurd h3 (k v h1 h1 h2)
  · exact ⟨w, hw, fun u hu => k u hu hu⟩
theorem settle_more {N : Nat} {L : List α} {p : Nat → Int} (hL : A.In N L) (hp : A.Pot L p) {st : Lb α} {S : List Nat} (h : Settled A far N L p st.at_ S) (hv : ∃ v, v < N ∧ v ∉ S ∧ st.at_ v < far) : ∃ v, Settled A far N L p (A.round far L st).at_ (v :: S) := by
  obtain ⟨v, ⟨v1, v2, v3⟩, v4⟩ := least_out (p := p) hv
  have hvS : ∀ u ∈ S, st.at_ u - p u ≤ st.at_ v - p v := fun u hu => h.low u hu v v2 v1 v3
  obtain ⟨⟨i1, i2, i3⟩, hD⟩ := fold_done (A := A) (far := far) (L := L)
    (I := fun t => (∀ u ∈ v :: S, t.at_ u = st.at_ u) ∧ (∀ u, u < N → u ∉ S → t.at_ u < far → st.at_ v - p v ≤ t.at_ u - p u) ∧ (∀ u, t.at_ u ≤ st.at_ u))
    (D := fun s t => A.fr s = v → t.at_ (A.to s) ≤ t.at_ v + A.ln s)
    (fun t s hs hI => by
      obtain ⟨j1, j2, j3⟩ := hI
      have hs1 := hL s hs
      have hs2 := hp s hs
      by_cases hc : A.Cond far t s
      · have c1 := hc.1
        have c2 := hc.2
        have hnot : A.fr s ∉ S := fun hm => by
          have q1 := j1 _ (List.mem_cons_of_mem _ hm)
          have q2 := h.out s hs hm
          have q3 := j3 (A.to s)
          -- labels outside only fall; the arc was met and stays met
          by_cases hm2 : A.to s ∈ v :: S
          · have := j1 _ hm2; omega
          · have hm3 : A.to s ∉ S := fun hh => hm2 (List.mem_cons_of_mem _ hh)
            omega
        have hlow := j2 _ hs1.1 hnot c1
        have hto : A.to s ∉ v :: S := fun hm => by
          have q1 := j1 _ hm
          rcases List.mem_cons.1 hm with e | hm
          · rw [e] at hs2 q1 c2
            omega
          · have := hvS _ hm
            omega
        have hr : A.relax far t s = A.put t s := by unfold Arcs.relax; rw [if_pos hc]
        rw [hr]
        refine ⟨⟨fun u hu => ?_, fun u hu h1 h2 => ?_, fun u => ?_⟩, fun he => ?_⟩
        · simp only [Arcs.put]
          rw [upd_ne (fun e => hto (by rw [← e]; exact hu))]
          exact j1 u hu
        · simp only [Arcs.put, upd] at h2 ⊢
          by_cases e : u = A.to s
          · rw [if_pos e]; subst e; omega
          · rw [if_neg e] at h2 ⊢; exact j2 u hu h1 h2
        · simp only [Arcs.put, upd]
          split
          · rename_i e; subst e; have := j3 (A.to s); omega
          · exact j3 u
        · simp only [Arcs.put]
          have hne : v ≠ A.to s := fun e => hto (by rw [← e]; exact List.mem_cons_self)
          rw [upd_same, upd_ne hne, he]
          exact Int.le_refl _
      · rw [relax_idle hc]
        refine ⟨⟨j1, j2, j3⟩, fun he => ?_⟩
        have := j1 v List.mem_cons_self
        unfold Arcs.Cond at hc
        rw [he, this] at hc
        rw [this]
        omega)
    (fun t s r hs hr hI hd he => by
      obtain ⟨j1, j2, j3⟩ := hI
      have q := hd he
      have h1 := relax_le (A := A) (far := far) t s (A.to r)
      -- v keeps its label
      by_cases hc : A.Cond far t s
      · have c1 := hc.1
        have c2 := hc.2
        have hs1 := hL s hs
        have hs2 := hp s hs
        have hnot : A.fr s ∉ S := fun hm => by
          have q1 := j1 _ (List.mem_cons_of_mem _ hm)
          have q2 := h.out s hs hm
          have q3 := j3 (A.to s)
          by_cases hm2 : A.to s ∈ v :: S
          · have := j1 _ hm2; omega
          · omega
        have hlow := j2 _ hs1.1 hnot c1
        have hto : A.to s ≠ v := fun e => by
          have q1 := j1 v List.mem_cons_self
          rw [e] at hs2 c2
          omega
        have e2 : (A.relax far t s).at_ v = t.at_ v := by
          unfold Arcs.relax; rw [if_pos hc]; simp only [Arcs.put]; exact upd_ne (fun e => hto e.symm)
        rw [e2]
        omega
      · rw [relax_idle hc]; exact q)
    (st := { st with last := -1 }) ⟨fun u _ => rfl, fun u hu h1 h2 => v4 u hu h1 h2, fun u => Int.le_refl _⟩
  refine ⟨v, ⟨List.nodup_cons.2 ⟨v2, h.nd⟩, fun u hu => ?_, fun s hs hm => ?_, fun u hu w hw hwN hwf => ?_⟩⟩
  · have := i1 u hu
    unfold Arcs.round
    rw [this]
    rcases List.mem_cons.1 hu with rfl | hu
    · exact ⟨v1, v3⟩
    · exact h.lt u hu
  · unfold Arcs.round
    rcases List.mem_cons.1 hm with e | hm
    · have := hD s hs e; rw [e]; exact this
    · have q1 := i1 _ (List.mem_cons_of_mem _ hm)
      have q2 := h.out s hs hm
      have q3 := i3 (A.to s)
      rw [q1]
      omega
  · unfold Arcs.round at hwf ⊢
    have q1 := i1 u hu
    have q2 := i2 w hwN (fun hh => hw (List.mem_cons_of_mem _ hh)) hwf
    rw [q1]
    rcases List.mem_cons.1 hu with rfl | hu
    · exact q2
    · have := hvS u hu; omega
theorem settle_all {N : Nat} {L : List α} {p : Nat → Int} (hL : A.In N L) (hp : A.Pot L p) (st : Lb α) : ∀ k, A.Sat far L (A.reach far L st k).at_ ∨ ∃ S, S.length = k ∧ Settled A far N L p (A.reach far L st k).at_ S
  | 0 => .inr ⟨[], rfl, List.nodup_nil, fun u hu => by simp at hu, fun s _ hm => by simp at hm, fun u hu => by simp at hu⟩
  | k + 1 => by
    rcases settle_all hL hp st k with h | ⟨S, hl, h⟩
    · refine .inl ?_
      show A.Sat far L (A.round far L (A.reach far L st k)).at_
      rw [sat_idle h]; exact h
    · by_cases hv : ∃ v, v < N ∧ v ∉ S ∧ (A.reach far L st k).at_ v < far
      · obtain ⟨v, hS⟩ := settle_more hL hp h hv
        exact .inr ⟨v :: S, by simp [hl], hS⟩
      · refine .inl ?_
        have hsat : A.Sat far L (A.reach far L st k).at_ := fun s hs hf => by
          have h1 := hL s hs
          have h2 : A.fr s ∈ S := Classical.byContradiction fun hn => hv ⟨A.fr s, h1.1, hn, hf⟩
          exact h.out s hs h2
        show A.Sat far L (A.round far L (A.reach far L st k)).at_
        rw [sat_idle hsat]; exact hsat
/-- with prices, all is reached in one round less than there are nodes -/
theorem reach_sat {N : Nat} {L : List α} {p : Nat → Int} (hL : A.In (N + 1) L) (hp : A.Pot L p) (st : Lb α) : A.Sat far L (A.reach far L st N).at_ := by
  rcases settle_all hL hp st N with h | ⟨S, hl, h⟩
  · exact h
  · intro s hs hf
    have h1 := hL s hs
    by_cases hm : A.fr s ∈ S
    · exact h.out s hs hm
    · by_cases hm2 : A.to s ∈ S
      · have := h.low _ hm2 _ hm h1.1 hf
        have := hp s hs
        omega
      · by_cases e : A.fr s = A.to s
        · have h2 := hp s hs
          rw [e] at h2 hf ⊢
          omega
        · have := range_len (N := N + 1) (S := A.fr s :: A.to s :: S) (by
            rw [List.nodup_cons, List.nodup_cons]
            refine ⟨fun hh => ?_, hm2, h.nd⟩
            rcases List.mem_cons.1 hh with hh | hh
            · exact e hh
            · exact hm hh) (fun x hx => by
            rcases List.mem_cons.1 hx with rfl | hx
            · exact h1.1
            · rcases List.mem_cons.1 hx with rfl | hx
              · exact h1.2
              · exact (h.lt x hx).1)
          simp at this
          omega
theorem reach_sat' {N : Nat} {L : List α} {p : Nat → Int} (hL : A.In N L) (hp : A.Pot L p) (st : Lb α) : A.Sat far L (A.reach far L st N).at_ := by
  cases N with
  | zero => intro s hs; have := hL s hs; omega
  | succ n =>
    have h := reach_sat (far := far) hL hp st
    show A.Sat far L (A.round far L (A.reach far L st n)).at_
    rw [sat_idle h]; exact h
end

/- Plain words of labels along arcs: the chains back, and prices made of labels. No program in sight. -/

/-- the chain from a node back to where it begins -/
inductive Chn {α : Type} (A : Arcs α) (b : Nat → Option α) : Nat → List α → Nat → Prop
  | nil {v : Nat} : b v = none → Chn A b v [] v
  | cons {v : Nat} {s : α} {l : List α} {r : Nat} : b v = some s → Chn A b (A.fr s) l r → Chn A b v (s :: l) r
def sumLn {α : Type} (A : Arcs α) : List α → Int
  | [] => 0
  | s :: l => A.ln s + sumLn A l
section
variable {α : Type} {A : Arcs α} {far : Int}
theorem Chn.det {b : Nat → Option α} {v : Nat} {l : List α} {r : Nat} (h : Chn A b v l r) : ∀ {l' : List α} {r' : Nat}, Chn A b v l' r' → l = l' ∧ r = r' := by
  induction h with
  | nil h1 =>
    intro l' r' h2
    cases h2 with
    | nil _ => exact ⟨rfl, rfl⟩
    | cons h3 _ => rw [h1] at h3; exact absurd h3 (by simp)
  | cons h1 _ ih =>
    intro l' r' h2
    cases h2 with
    | nil h3 => rw [h1] at h3; exact absurd h3 (by simp)
    | cons h3 h4 =>
      rw [h1] at h3
      cases h3
      obtain ⟨e1, e2⟩ := ih h4
      exact ⟨by rw [e1], e2⟩
/-- the nodes of a chain behind its first one -/
def nodesOf (A : Arcs α) (l : List α) : List Nat := l.map A.fr
theorem Chn.at_node {b : Nat → Option α} {v : Nat} {l : List α} {r : Nat} (h : Chn A b v l r) : ∀ w, w ∈ v :: nodesOf A l → ∃ l', l'.length ≤ l.length ∧ (∀ s ∈ l', s ∈ l) ∧ Chn A b w l' r := by
  induction h with
  | nil h1 =>
    intro w hw
    simp only [nodesOf, List.map_nil, List.mem_singleton] at hw
    subst hw
    exact ⟨[], Nat.le_refl _, fun s h => h, .nil h1⟩
  | @cons v s l r h1 h2 ih =>
    intro w hw
    simp only [nodesOf, List.map_cons] at hw
    rcases List.mem_cons.1 hw with rfl | hw
    · exact ⟨s :: l, Nat.le_refl _, fun _ h => h, .cons h1 h2⟩
    · obtain ⟨l', h3, h4, h5⟩ := ih w hw
      exact ⟨l', by simp; omega, fun t ht => List.mem_cons_of_mem _ (h4 t ht), h5⟩
theorem Chn.nodup {b : Nat → Option α} {v : Nat} {l : List α} {r : Nat} (h : Chn A b v l r) : (v :: nodesOf A l).Nodup := by
  induction h with
  | nil _ => simp [nodesOf]
  | @cons v s l r h1 h2 ih =>
    rw [List.nodup_cons]
    refine ⟨fun hm => ?_, ih⟩
    obtain ⟨l', h3, _, h4⟩ := h2.at_node v hm
    have := (Chn.det (.cons h1 h2) h4).1
    rw [← this] at h3
    simp at h3
    omega
theorem Chn.in_ {b : Nat → Option α} {P : Nat → Prop} {v : Nat} {l : List α} {r : Nat} (h : Chn A b v l r) (hv : P v) (hs : ∀ v s, P v → b v = some s → P (A.fr s)) : P r ∧ (∀ w ∈ v :: nodesOf A l, P w) := by
  induction h with
  | nil _ => exact ⟨hv, fun w hw => by simp [nodesOf] at hw; subst hw; exact hv⟩
  | @cons v s l r h1 h2 ih =>
    obtain ⟨h3, h4⟩ := ih (hs _ _ hv h1)
    refine ⟨h3, fun w hw => ?_⟩
    rcases List.mem_cons.1 hw with rfl | hw
    · exact hv
    · exact h4 w (by simpa [nodesOf] using hw)
theorem Chn.arcs {b : Nat → Option α} {P : Nat → Prop} {Q : α → Prop} {v : Nat} {l : List α} {r : Nat} (h : Chn A b v l r) (hv : P v) (hs : ∀ v s, P v → b v = some s → P (A.fr s) ∧ Q s) : ∀ s ∈ l, Q s := by
  induction h with
  | nil _ => intro s h; simp at h
  | @cons v s l r h1 h2 ih =>
    intro t ht
    obtain ⟨h3, h4⟩ := hs _ _ hv h1
    rcases List.mem_cons.1 ht with rfl | ht
    · exact h4
    · exact ih h3 t ht
theorem Chn.root {b : Nat → Option α} {v : Nat} {l : List α} {r : Nat} (h : Chn A b v l r) : b r = none := by
  induction h with
  | nil h => exact h
  | cons _ _ ih => exact ih
/-- what holds of labels and chains at any time -/
structure LInv (A : Arcs α) (far : Int) (N : Nat) (L : List α) (p first : Nat → Int) (st : Lb α) : Prop where
  edge : ∀ v, v < N → ∀ s, st.by_ v = some s → s ∈ L ∧ A.to s = v ∧ st.at_ (A.fr s) < far ∧ st.at_ v < far ∧ st.at_ (A.fr s) + A.ln s ≤ st.at_ v
  root : ∀ v, v < N → st.by_ v = none → st.at_ v = first v
  ends : ∀ v, v < N → ∃ l r, Chn A st.by_ v l r
theorem linv_start {N : Nat} {L : List α} {p first : Nat → Int} : LInv A far N L p first ⟨first, fun _ => none, -1⟩ := ⟨fun v _ s h => by simp at h, fun v _ _ => rfl, fun v _ => ⟨[], v, .nil rfl⟩⟩
theorem LInv.last {N : Nat} {L : List α} {p first : Nat → Int} {st : Lb α} (h : LInv A far N L p first st) (k : Int) : LInv A far N L p first { st with last := k } := ⟨h.edge, h.root, h.ends⟩
/-- labels fall along chains, told with prices -/
theorem LInv.down {N : Nat} {L : List α} {p first : Nat → Int} {st : Lb α} (h : LInv A far N L p first st) (hL : A.In N L) (hp : A.Pot L p) {v : Nat} (hv : v < N) {l : List α} {r : Nat} (hc : Chn A st.by_ v l r) : ∀ w ∈ v :: nodesOf A l, st.at_ w - p w ≤ st.at_ v - p v := by
  induction hc with
  | nil _ => intro w hw; simp [nodesOf] at hw; subst hw; exact Int.le_refl _
  | @cons v s l r h1 h2 ih =>
    obtain ⟨e1, e2, e3, e4, e5⟩ := h.edge v hv s h1
    have hs := hL s e1
    intro w hw
    rcases List.mem_cons.1 hw with rfl | hw
    · exact Int.le_refl _
    · have := ih hs.1 w (by simpa [nodesOf] using hw)
      have := hp s e1
      rw [e2] at this
      omega
theorem LInv.relax {N : Nat} {L : List α} {p first : Nat → Int} {st : Lb α} (h : LInv A far N L p first st) (hL : A.In N L) (hp : A.Pot L p) (hf : ∀ v, v < N → st.at_ v ≤ far) {s : α} (hs : s ∈ L) : LInv A far N L p first (A.relax far st s) := by
  by_cases hc : A.Cond far st s
  case neg => rw [relax_idle hc]; exact h
  case pos =>
  have c1 := hc.1
  have c2 := hc.2
  have hs1 := hL s hs
  have hs2 := hp s hs
  have hft := hf (A.to s) hs1.2
  have hne : A.fr s ≠ A.to s := fun e => by rw [e] at c2 hs2; omega
  have hr : A.relax far st s = A.put st s := by unfold Arcs.relax; rw [if_pos hc]
  rw [hr]
  have notin : ∀ {w l r}, w < N → Chn A st.by_ w l r → A.to s ∉ w :: nodesOf A l → Chn A (A.put st s).by_ w l r := by
    intro w l r hw hch
    induction hch with
    | @nil w h1 =>
      intro hn
      refine .nil ?_
      show upd st.by_ _ _ w = none
      rw [upd_ne (fun e => hn (by rw [← e]; exact List.mem_cons_self))]; exact h1
    | @cons w t l r h1 h2 ih =>
      intro hn
      obtain ⟨e1, _⟩ := h.edge w hw t h1
      refine .cons (s := t) ?_ (ih (hL t e1).1 (fun hm => hn (List.mem_cons_of_mem _ (by simpa [nodesOf] using hm))))
      show upd st.by_ _ _ w = some t
      rw [upd_ne (fun e => hn (by rw [← e]; exact List.mem_cons_self))]; exact h1
  obtain ⟨lu, ru, hcu⟩ := h.ends (A.fr s) hs1.1
  have hnu : A.to s ∉ A.fr s :: nodesOf A lu := fun hm => by
    have := h.down hL hp hs1.1 hcu _ hm
    omega
  have hto : Chn A (A.put st s).by_ (A.to s) (s :: lu) ru := .cons (by show upd st.by_ _ _ _ = _; rw [upd_same]) (notin hs1.1 hcu hnu)
  refine ⟨fun v hv t ht => ?_, fun v hv hn => ?_, fun v hv => ?_⟩
  · have ht : upd st.by_ (A.to s) (some s) v = some t := ht
    show t ∈ L ∧ A.to t = v ∧ upd st.at_ (A.to s) (st.at_ (A.fr s) + A.ln s) (A.fr t) < far ∧ upd st.at_ (A.to s) (st.at_ (A.fr s) + A.ln s) v < far ∧ upd st.at_ (A.to s) (st.at_ (A.fr s) + A.ln s) (A.fr t) + A.ln t ≤ upd st.at_ (A.to s) (st.at_ (A.fr s) + A.ln s) v
    by_cases e : v = A.to s
    · subst e
      rw [upd_same] at ht
      cases ht
      rw [upd_same, upd_ne hne]
      exact ⟨hs, rfl, c1, by omega, Int.le_refl _⟩
    · rw [upd_ne e] at ht ⊢
      obtain ⟨e1, e2, e3, e4, e5⟩ := h.edge v hv t ht
      refine ⟨e1, e2, ?_, e4, ?_⟩
      · by_cases e6 : A.fr t = A.to s
        · rw [e6, upd_same]; omega
        · rw [upd_ne e6]; exact e3
      · by_cases e6 : A.fr t = A.to s
        · rw [e6, upd_same]; rw [e6] at e5; omega
        · rw [upd_ne e6]; exact e5
  · have hn : upd st.by_ (A.to s) (some s) v = none := hn
    by_cases e : v = A.to s
    · subst e; rw [upd_same] at hn; simp at hn
    · rw [upd_ne e] at hn
      show upd st.at_ _ _ v = _
      rw [upd_ne e]; exact h.root v hv hn
  · obtain ⟨l, r, hch⟩ := h.ends v hv
    -- up to the node that is told anew
    have key : ∀ {w l r}, w < N → Chn A st.by_ w l r → ∃ l' r', Chn A (A.put st s).by_ w l' r' := by
      intro w l r hw hch
      induction hch with
      | @nil w h1 =>
        by_cases e : w = A.to s
        · subst e; exact ⟨_, _, hto⟩
        · exact ⟨[], w, .nil (by show upd st.by_ _ _ w = none; rw [upd_ne e]; exact h1)⟩
      | @cons w t l r h1 h2 ih =>
        by_cases e : w = A.to s
        · subst e; exact ⟨_, _, hto⟩
        · obtain ⟨e1, _⟩ := h.edge w hw t h1
          obtain ⟨l', r', h3⟩ := ih (hL t e1).1
          exact ⟨t :: l', r', .cons (by show upd st.by_ _ _ w = some t; rw [upd_ne e]; exact h1) h3⟩
    exact key hv hch
/-- in the program's terms: the state behind k rounds -/
theorem reach_inv {N : Nat} {L : List α} {p first : Nat → Int} (hL : A.In N L) (hp : A.Pot L p) (hf : ∀ v, v < N → first v ≤ far) {st : Lb α} (h0 : LInv A far N L p first st) (h1 : ∀ v, v < N → st.at_ v ≤ far) : ∀ k, LInv A far N L p first (A.reach far L st k) ∧ ∀ v, v < N → (A.reach far L st k).at_ v ≤ far
  | 0 => ⟨h0, h1⟩
  | k + 1 => by
    obtain ⟨h2, h3⟩ := reach_inv hL hp hf h0 h1 k
    exact fold_inv (A := A) (far := far) (I := fun t => LInv A far N L p first t ∧ ∀ v, v < N → t.at_ v ≤ far) (fun t s hs hI => ⟨hI.1.relax hL hp hI.2 hs, fun v hv => Int.le_trans (relax_le t s v) (hI.2 v hv)⟩) ⟨h2.last (-1), h3⟩
/-- what the state is when nothing changes any more -/
structure LEnd (A : Arcs α) (far : Int) (N : Nat) (L : List α) (p first : Nat → Int) (at_ : Nat → Int) (b : Nat → Option α) : Prop where
  sat : A.Sat far L at_
  edge : ∀ v, v < N → ∀ s, b v = some s → s ∈ L ∧ A.to s = v ∧ at_ (A.fr s) < far ∧ at_ v < far ∧ at_ (A.fr s) + A.ln s = at_ v
  root : ∀ v, v < N → b v = none → at_ v = first v
  ends : ∀ v, v < N → ∃ l r, Chn A b v l r
  le : ∀ v, v < N → at_ v ≤ first v
theorem reach_end {N : Nat} {L : List α} {p first : Nat → Int} (hL : A.In N L) (hp : A.Pot L p) (hf : ∀ v, v < N → first v ≤ far) (k : Int) :
    LEnd A far N L p first (A.reach far L ⟨first, fun _ => none, k⟩ N).at_ (A.reach far L ⟨first, fun _ => none, k⟩ N).by_ := by
  obtain ⟨h1, h2⟩ := reach_inv (A := A) (far := far) (p := p) (first := first) hL hp hf (st := ⟨first, fun _ => none, k⟩) (linv_start.last k) hf N
  have h3 := reach_sat' (far := far) hL hp ⟨first, fun _ => none, k⟩
  refine ⟨h3, fun v hv s hs => ?_, h1.root, h1.ends, fun v hv => reach_le _ _ v N⟩
  obtain ⟨e1, e2, e3, e4, e5⟩ := h1.edge v hv s hs
  have := h3 s e1 e3
  rw [e2] at this
  exact ⟨e1, e2, e3, e4, by omega⟩
theorem LEnd.tele {N : Nat} {L : List α} {p first at_ : Nat → Int} {b : Nat → Option α} (h : LEnd A far N L p first at_ b) (hL : A.In N L) {v : Nat} (hv : v < N) {l : List α} {r : Nat} (hc : Chn A b v l r) : at_ v = at_ r + sumLn A l ∧ r < N ∧ (∀ s ∈ l, s ∈ L) ∧ at_ r = first r ∧ (at_ v < far → at_ r < far) := by
  induction hc with
  | nil h1 => exact ⟨by simp [sumLn], hv, fun s hs => by simp at hs, h.root _ hv h1, fun h => h⟩
  | @cons v s l r h1 h2 ih =>
    obtain ⟨e1, e2, e3, e4, e5⟩ := h.edge v hv s h1
    obtain ⟨i1, i2, i3, i4, i5⟩ := ih (hL s e1).1
    refine ⟨by simp only [sumLn]; omega, i2, fun t ht => ?_, i4, fun _ => i5 e3⟩
    rcases List.mem_cons.1 ht with rfl | ht
    · exact e1
    · exact i3 t ht
theorem Chn.short {b : Nat → Option α} {N : Nat} {L : List α} (hL : A.In N L) {v : Nat} {l : List α} {r : Nat} (h : Chn A b v l r) (hv : v < N) (hl : ∀ s ∈ l, s ∈ L) : l.length + 1 ≤ N := by
  have := range_len (N := N) h.nodup (fun x hx => by
    rcases List.mem_cons.1 hx with rfl | hx
    · exact hv
    · obtain ⟨s, hs, rfl⟩ := List.mem_map.1 hx
      exact (hL s (hl s hs)).1)
  simpa [nodesOf] using this
theorem sumLn_bd {l : List α} {K : Int} (h : ∀ s ∈ l, -K ≤ A.ln s ∧ A.ln s ≤ K) : -(l.length * K) ≤ sumLn A l ∧ sumLn A l ≤ l.length * K := by
  induction l with
  | nil => simp [sumLn]
  | cons s l ih =>
    have := ih (fun t ht => h t (List.mem_cons_of_mem _ ht))
    have h1 := h s List.mem_cons_self
    simp only [sumLn, List.length_cons, Int.natCast_add, Int.add_mul]
    simp only [Int.cast_ofNat_Int, Int.one_mul]
    omega
theorem LEnd.down {N : Nat} {L : List α} {p first at_ : Nat → Int} {b : Nat → Option α} (h : LEnd A far N L p first at_ b) (hL : A.In N L) (hp : A.Pot L p) {v : Nat} (hv : v < N) {l : List α} {r : Nat} (hc : Chn A b v l r) : ∀ w ∈ v :: nodesOf A l, at_ w - p w ≤ at_ v - p v ∧ (at_ v < far → at_ w < far) := by
  induction hc with
  | nil _ => intro w hw; simp [nodesOf] at hw; subst hw; exact ⟨Int.le_refl _, fun h => h⟩
  | @cons v s l r h1 h2 ih =>
    obtain ⟨e1, e2, e3, e4, e5⟩ := h.edge v hv s h1
    have hs := hL s e1
    intro w hw
    rcases List.mem_cons.1 hw with rfl | hw
    · exact ⟨Int.le_refl _, fun h => h⟩
    · have := ih hs.1 w (by simpa [nodesOf] using hw)
      have h3 := hp s e1
      rw [e2] at h3
      exact ⟨by omega, fun _ => this.2 e3⟩
/-- no label is further from its beginning than so many arcs are long -/
theorem LEnd.bd {N : Nat} {L : List α} {p first at_ : Nat → Int} {b : Nat → Option α} (h : LEnd A far N L p first at_ b) (hL : A.In N L) {K : Int} (hK : 0 ≤ K) (hl : ∀ s ∈ L, -K ≤ A.ln s ∧ A.ln s ≤ K) {v : Nat} (hv : v < N) : ∃ r, r < N ∧ b r = none ∧ at_ r = first r ∧ (at_ v < far → first r < far) ∧ first r - (N - 1) * K ≤ at_ v ∧ at_ v ≤ first r + (N - 1) * K := by
  obtain ⟨l, r, hc⟩ := h.ends v hv
  obtain ⟨h1, h2, h3, h4, h9⟩ := h.tele hL hv hc
  have h5 := hc.short hL hv h3
  have h6 := sumLn_bd (A := A) (l := l) (fun s hs => hl s (h3 s hs))
  have h7 : (l.length : Int) * K ≤ (N - 1) * K := Int.mul_le_mul_of_nonneg_right (by omega) hK
  exact ⟨r, h2, hc.root, h4, fun hh => by have := h9 hh; omega, by omega, by omega⟩
/-- prices made of labels: no node further than the cap -/
def capP (far : Int) (p at_ : Nat → Int) (c : Int) (v : Nat) : Int := if at_ v < far ∧ at_ v - p v < c then at_ v else c + p v
theorem capP_pot {L : List α} {p at_ : Nat → Int} {c : Int} (h : A.Sat far L at_) (hp : A.Pot L p) (hb : ∀ s ∈ L, at_ (A.fr s) < far → at_ (A.to s) < far) : A.Pot L (capP far p at_ c) := by
  intro s hs
  have h1 := hp s hs
  unfold capP
  by_cases h2 : at_ (A.fr s) < far ∧ at_ (A.fr s) - p (A.fr s) < c
  · rw [if_pos h2]
    have h3 := h s hs h2.1
    split
    · omega
    · rename_i h4
      have h5 := hb s hs h2.1
      have : ¬ at_ (A.to s) - p (A.to s) < c := fun h6 => h4 ⟨h5, h6⟩
      omega
  · rw [if_neg h2]
    split <;> omega
/-- along the chain to a node these prices are the labels, and each arc is tight -/
theorem capP_tight {N : Nat} {L : List α} {p first at_ : Nat → Int} {b : Nat → Option α} (h : LEnd A far N L p first at_ b) (hL : A.In N L) (hp : A.Pot L p) {v : Nat} (hv : v < N) (hf : at_ v < far) {l : List α} {r : Nat} (hc : Chn A b v l r) :
    ∀ s ∈ l, capP far p at_ (at_ v - p v) (A.to s) = A.ln s + capP far p at_ (at_ v - p v) (A.fr s) := by
  have hd := h.down hL hp hv hc
  have same : ∀ w ∈ v :: nodesOf A l, capP far p at_ (at_ v - p v) w = at_ w := fun w hw => by
    obtain ⟨h1, h2⟩ := hd w hw
    have h3 := h2 hf
    unfold capP
    split <;> omega
  clear hd
  have key : ∀ {w l r'}, w < N → Chn A b w l r' → (∀ x ∈ w :: nodesOf A l, capP far p at_ (at_ v - p v) x = at_ x) → ∀ s ∈ l, capP far p at_ (at_ v - p v) (A.to s) = A.ln s + capP far p at_ (at_ v - p v) (A.fr s) := by
    intro w l r' hw hch
    induction hch with
    | nil _ => intro _ s hs; simp at hs
    | @cons w t l r' h1 h2 ih =>
      intro hsame s hs
      obtain ⟨e1, e2, e3, e4, e5⟩ := h.edge w hw t h1
      rcases List.mem_cons.1 hs with rfl | hs
      · rw [e2, hsame w List.mem_cons_self, hsame (A.fr s) (List.mem_cons_of_mem _ (by simp [nodesOf]))]; omega
      · exact ih (hL t e1).1 (fun x hx => hsame x (List.mem_cons_of_mem _ (by simpa [nodesOf] using hx))) s hs
  exact key hv hc same
end

/- Plain words of flows: what leaves, what it costs, steps, prices that prove, barriers. No program in sight. -/

def sumN (f : Nat → Int) : Nat → Int
  | 0 => 0
  | n + 1 => sumN f n + f n
theorem sumN_congr {f g : Nat → Int} : ∀ {n : Nat}, (∀ i, i < n → f i = g i) → sumN f n = sumN g n
  | 0, _ => rfl
  | n + 1, h => by simp only [sumN]; rw [sumN_congr (fun i hi => h i (by omega)), h n (by omega)]
theorem sumN_add (f g : Nat → Int) : ∀ n, sumN (fun i => f i + g i) n = sumN f n + sumN g n
  | 0 => rfl
  | n + 1 => by simp only [sumN]; rw [sumN_add]; omega
theorem sumN_mul (c : Int) (f : Nat → Int) : ∀ n, sumN (fun i => c * f i) n = c * sumN f n
  | 0 => by simp [sumN]
  | n + 1 => by simp only [sumN]; rw [sumN_mul, Int.mul_add]
theorem sumN_zero : ∀ n, sumN (fun _ => 0) n = 0
  | 0 => rfl
  | n + 1 => by simp only [sumN]; rw [sumN_zero]; omega
theorem sumN_le {f g : Nat → Int} : ∀ {n : Nat}, (∀ i, i < n → f i ≤ g i) → sumN f n ≤ sumN g n
  | 0, _ => Int.le_refl _
  | n + 1, h => by
    simp only [sumN]
    have := sumN_le (n := n) (fun i hi => h i (by omega))
    have := h n (by omega)
    omega
theorem sumN_nonneg {f : Nat → Int} {n : Nat} (h : ∀ i, i < n → 0 ≤ f i) : 0 ≤ sumN f n := by
  have := sumN_le (f := fun _ => 0) (g := f) (n := n) h
  rw [sumN_zero] at this; exact this
theorem sumN_swap (f : Nat → Nat → Int) (m : Nat) : ∀ n, sumN (fun i => sumN (fun j => f i j) m) n = sumN (fun j => sumN (fun i => f i j) n) m
  | 0 => by simp only [sumN]; rw [sumN_zero]
  | n + 1 => by
    simp only [sumN]
    rw [sumN_swap f m n, ← sumN_add]
theorem sumN_pick (f : Nat → Int) (a : Nat) : ∀ n, sumN (fun v => if v = a then f v else 0) n = if a < n then f a else 0
  | 0 => by simp [sumN]
  | n + 1 => by
    simp only [sumN]
    rw [sumN_pick]
    by_cases h : n = a
    · subst h; simp
    · by_cases h2 : a < n
      · rw [if_pos h2, if_neg h, if_pos (by omega)]; omega
      · rw [if_neg h2, if_neg h, if_neg (by omega)]; omega
/-- all terms not below 0 and their sum 0: each is 0 -/
theorem sumN_all0 {f : Nat → Int} : ∀ {n : Nat}, (∀ i, i < n → 0 ≤ f i) → sumN f n ≤ 0 → ∀ i, i < n → f i = 0
  | 0, _, _, i, hi => by omega
  | n + 1, h, hs, i, hi => by
    simp only [sumN] at hs
    have h1 := sumN_nonneg (n := n) (fun i hi => h i (by omega))
    have h2 := h n (by omega)
    rcases Nat.lt_succ_iff_lt_or_eq.1 hi with hi | rfl
    · exact sumN_all0 (n := n) (fun i hi => h i (by omega)) (by omega) i hi
    · omega
def one (a b : Nat) : Int := if a = b then 1 else 0
structure NetG where
  K : Nat
  fr : Nat → Nat
  to : Nat → Nat
  ln : Nat → Int
  wd : Nat → Int
def eNo (s : Int) : Nat := (max s (-s) - 1).toNat
def sg (s : Int) : Int := if s < 0 then -1 else 1
namespace NetG
def arcs (G : NetG) : Arcs Int := ⟨fun s => if s < 0 then G.to (eNo s) else G.fr (eNo s), fun s => if s < 0 then G.fr (eNo s) else G.to (eNo s), fun s => if s < 0 then -G.ln (eNo s) else G.ln (eNo s)⟩
def IsStep (G : NetG) (s : Int) : Prop := 1 ≤ max s (-s) ∧ max s (-s) ≤ G.K
/-- a step that a flow allows -/
def Ok (G : NetG) (f : Nat → Int) (s : Int) : Prop := G.IsStep s ∧ if s < 0 then 0 < f (eNo s) else f (eNo s) < G.wd (eNo s)
def Steps (G : NetG) (f : Nat → Int) (L : List Int) : Prop := ∀ s, s ∈ L ↔ G.Ok f s
def Fs (G : NetG) (f : Nat → Int) : Prop := ∀ k, k < G.K → 0 ≤ f k ∧ f k ≤ G.wd k
def out (G : NetG) (f : Nat → Int) (v : Nat) : Int := sumN (fun k => f k * (one (G.fr k) v - one (G.to k) v)) G.K
def cost (G : NetG) (f : Nat → Int) : Int := sumN (fun k => G.ln k * f k) G.K
def Fine (G : NetG) (N : Nat) : Prop := ∀ k, k < G.K → G.fr k < N ∧ G.to k < N
end NetG
theorem eNo_lt {G : NetG} {s : Int} (h : G.IsStep s) : eNo s < G.K := by unfold eNo; have := h.1; have := h.2; omega
theorem eNo_pos (k : Nat) : eNo ((k : Int) + 1) = k := by unfold eNo; omega
theorem eNo_neg (k : Nat) : eNo (-(k : Int) - 1) = k := by unfold eNo; omega
theorem eNo_eq {s t : Int} (hs : 1 ≤ max s (-s)) (ht : 1 ≤ max t (-t)) (h : eNo s = eNo t) : s = t ∨ s = -t := by unfold eNo at h; omega
theorem ok_pos {G : NetG} {f : Nat → Int} {k : Nat} (hk : k < G.K) (h : f k < G.wd k) : G.Ok f ((k : Int) + 1) := ⟨⟨by omega, by omega⟩, by rw [if_neg (by omega), eNo_pos]; exact h⟩
theorem ok_neg {G : NetG} {f : Nat → Int} {k : Nat} (hk : k < G.K) (h : 0 < f k) : G.Ok f (-(k : Int) - 1) := ⟨⟨by omega, by omega⟩, by rw [if_pos (by omega), eNo_neg]; exact h⟩
theorem steps_in {G : NetG} {N : Nat} {f : Nat → Int} {L : List Int} (hG : G.Fine N) (hL : G.Steps f L) : G.arcs.In N L := fun s hs => by
  have h1 := hG _ (eNo_lt ((hL s).1 hs).1)
  simp only [NetG.arcs]
  split <;> exact ⟨by omega, by omega⟩
/-! the worth of prices -/
theorem sum_one (p : Nat → Int) {a N : Nat} (h : a < N) : sumN (fun v => p v * one a v) N = p a := by
  rw [show (fun v => p v * one a v) = (fun v => if v = a then p v else 0) from funext fun v => by unfold one; by_cases e : v = a; rw [if_pos e, if_pos e.symm]; omega; rw [if_neg e, if_neg (fun h => e h.symm)]; omega]
  rw [sumN_pick, if_pos h]
theorem sum_out {G : NetG} {N : Nat} (hG : G.Fine N) (p f : Nat → Int) : sumN (fun v => p v * G.out f v) N = sumN (fun k => f k * (p (G.fr k) - p (G.to k))) G.K := by
  rw [show (fun v => p v * G.out f v) = (fun v => sumN (fun k => f k * (p v * one (G.fr k) v - p v * one (G.to k) v)) G.K) from funext fun v => by
    unfold NetG.out
    rw [← sumN_mul]
    exact sumN_congr fun k _ => by grind]
  rw [sumN_swap]
  refine sumN_congr fun k hk => ?_
  rw [sumN_mul]
  congr 1
  rw [show (fun v => p v * one (G.fr k) v - p v * one (G.to k) v) = (fun v => p v * one (G.fr k) v + (-1) * (p v * one (G.to k) v)) from funext fun v => by omega]
  rw [sumN_add, sumN_mul, sum_one p (hG k hk).1, sum_one p (hG k hk).2]
  omega
/-- prices for all steps of a flow: it is a cheapest one -/
theorem cheapest_of {G : NetG} {N : Nat} (hG : G.Fine N) {f g p : Nat → Int} {L : List Int} (hL : G.Steps f L) (hp : G.arcs.Pot L p) (hf : G.Fs f) (hg : G.Fs g) (hout : ∀ v, v < N → G.out f v = G.out g v) :
    G.cost f ≤ G.cost g ∧ (G.cost g ≤ G.cost f → ∀ k, k < G.K → (G.ln k + p (G.fr k) - p (G.to k)) * (g k - f k) = 0) := by
  have key : sumN (fun k => (G.ln k + p (G.fr k) - p (G.to k)) * (g k - f k)) G.K = G.cost g - G.cost f := by
    have h1 := sum_out hG p f
    have h2 := sum_out hG p g
    rw [sumN_congr (g := fun v => p v * G.out g v) (fun v hv => by rw [hout v hv]), h2] at h1
    have h3 : sumN (fun k => (G.ln k + p (G.fr k) - p (G.to k)) * (g k - f k)) G.K = sumN (fun k => (G.ln k * g k + (-1) * (G.ln k * f k)) + (g k * (p (G.fr k) - p (G.to k)) + (-1) * (f k * (p (G.fr k) - p (G.to k))))) G.K := sumN_congr fun k _ => by grind
    rw [h3, sumN_add, sumN_add, sumN_add, sumN_mul, sumN_mul, h1]
    unfold NetG.cost
    omega
  have pos : ∀ k, k < G.K → 0 ≤ (G.ln k + p (G.fr k) - p (G.to k)) * (g k - f k) := fun k hk => by
    have f1 := hf k hk
    have g1 := hg k hk
    by_cases h1 : f k < g k
    · have h2 := hp _ ((hL _).2 (ok_pos hk (show f k < G.wd k by omega)))
      simp only [NetG.arcs, eNo_pos] at h2
      rw [if_neg (by omega), if_neg (by omega), if_neg (by omega)] at h2
      exact Int.mul_nonneg (by omega) (by omega)
    · by_cases h3 : g k < f k
      · have h2 := hp _ ((hL _).2 (ok_neg hk (show 0 < f k by omega)))
        simp only [NetG.arcs, eNo_neg] at h2
        rw [if_pos (by omega), if_pos (by omega), if_pos (by omega)] at h2
        have := Int.mul_nonneg (show 0 ≤ -(G.ln k + p (G.fr k) - p (G.to k)) by omega) (show 0 ≤ -(g k - f k) by omega)
        rwa [Int.neg_mul_neg] at this
      · rw [show g k - f k = 0 by omega]; omega
  refine ⟨?_, fun hle => sumN_all0 pos (by omega)⟩
  have := sumN_nonneg pos
  omega
/-- the prices of one cheapest flow prove each other one -/
theorem pot_all {G : NetG} {N : Nat} (hG : G.Fine N) {f g p : Nat → Int} {L M : List Int} (hL : G.Steps f L) (hM : G.Steps g M) (hp : G.arcs.Pot L p) (hf : G.Fs f) (hg : G.Fs g) (hout : ∀ v, v < N → G.out f v = G.out g v) (hle : G.cost g ≤ G.cost f) : G.arcs.Pot M p := by
  intro s hs
  obtain ⟨h1, h2⟩ := (hM s).1 hs
  have hk := eNo_lt h1
  have h3 := (cheapest_of hG hL hp hf hg hout).2 hle (eNo s) hk
  have f1 := hf _ hk
  have g1 := hg _ hk
  have hor := Int.mul_eq_zero.1 h3
  have a1 : f (eNo s) < G.wd (eNo s) → 0 ≤ G.ln (eNo s) + p (G.fr (eNo s)) - p (G.to (eNo s)) := fun h => by
    have h2 := hp _ ((hL _).2 (ok_pos hk h))
    simp only [NetG.arcs, eNo_pos] at h2
    rw [if_neg (by omega), if_neg (by omega), if_neg (by omega)] at h2
    omega
  have a2 : 0 < f (eNo s) → G.ln (eNo s) + p (G.fr (eNo s)) - p (G.to (eNo s)) ≤ 0 := fun h => by
    have h2 := hp _ ((hL _).2 (ok_neg hk h))
    simp only [NetG.arcs, eNo_neg] at h2
    rw [if_pos (by omega), if_pos (by omega), if_pos (by omega)] at h2
    omega
  simp only [NetG.arcs]
  split at h2
  · rename_i hneg
    rw [if_pos hneg, if_pos hneg, if_pos hneg]
    rcases hor with h | h
    · omega
    · have := a2 (by omega); omega
  · rename_i hneg
    rw [if_neg hneg, if_neg hneg, if_neg hneg]
    rcases hor with h | h
    · omega
    · have := a1 (by omega); omega
/-! a flow turned along steps -/
def turnG (f : Nat → Int) (s : Int) : Nat → Int := upd f (eNo s) (f (eNo s) + sg s)
theorem sumN_upd (w f : Nat → Int) (a : Nat) (d : Int) : ∀ n, sumN (fun k => w k * upd f a (f a + d) k) n = sumN (fun k => w k * f k) n + if a < n then w a * d else 0
  | 0 => by simp [sumN]
  | n + 1 => by
    simp only [sumN]
    rw [sumN_upd]
    by_cases h : n = a
    · subst h
      rw [upd_same, if_neg (by omega), if_pos (by omega), Int.mul_add]; omega
    · rw [upd_ne h]
      by_cases h2 : a < n
      · rw [if_pos h2, if_pos (by omega)]; omega
      · rw [if_neg h2, if_neg (by omega)]; omega
theorem turnG_cost {G : NetG} (f : Nat → Int) {s : Int} (h : G.IsStep s) : G.cost (turnG f s) = G.cost f + G.arcs.ln s := by
  unfold NetG.cost turnG
  rw [sumN_upd, if_pos (eNo_lt h)]
  simp only [NetG.arcs, sg]
  split <;> omega
theorem turnG_out {G : NetG} (f : Nat → Int) {s : Int} (h : G.IsStep s) (v : Nat) : G.out (turnG f s) v = G.out f v + one (G.arcs.fr s) v - one (G.arcs.to s) v := by
  unfold NetG.out turnG
  rw [show (fun k => upd f (eNo s) (f (eNo s) + sg s) k * (one (G.fr k) v - one (G.to k) v)) = (fun k => (one (G.fr k) v - one (G.to k) v) * upd f (eNo s) (f (eNo s) + sg s) k) from funext fun k => Int.mul_comm _ _]
  rw [sumN_upd, if_pos (eNo_lt h), sumN_congr (f := fun k => (one (G.fr k) v - one (G.to k) v) * f k) (g := fun k => f k * (one (G.fr k) v - one (G.to k) v)) (fun k _ => Int.mul_comm _ _)]
  simp only [NetG.arcs, sg]
  split <;> omega
def turnsG (f : Nat → Int) (l : List Int) : Nat → Int := l.foldl turnG f
theorem turnsG_cost {G : NetG} : ∀ (l : List Int) (f : Nat → Int), (∀ s ∈ l, G.IsStep s) → G.cost (turnsG f l) = G.cost f + sumLn G.arcs l
  | [], f, _ => by simp [turnsG, sumLn]
  | s :: l, f, h => by
    have := turnsG_cost l (turnG f s) (fun t ht => h t (List.mem_cons_of_mem _ ht))
    unfold turnsG at this ⊢
    rw [List.foldl_cons, this, turnG_cost f (h s List.mem_cons_self)]
    simp only [sumLn]; omega
/-- what the ends of steps add up to -/
def sumEnd (G : NetG) (v : Nat) : List Int → Int
  | [] => 0
  | s :: l => one (G.arcs.fr s) v - one (G.arcs.to s) v + sumEnd G v l
theorem turnsG_out {G : NetG} (v : Nat) : ∀ (l : List Int) (f : Nat → Int), (∀ s ∈ l, G.IsStep s) → G.out (turnsG f l) v = G.out f v + sumEnd G v l
  | [], f, _ => by simp [turnsG, sumEnd]
  | s :: l, f, h => by
    have := turnsG_out v l (turnG f s) (fun t ht => h t (List.mem_cons_of_mem _ ht))
    unfold turnsG at this ⊢
    rw [List.foldl_cons, this, turnG_out f (h s List.mem_cons_self)]
    simp only [sumEnd]; omega
theorem turnsG_other : ∀ (l : List Int) (f : Nat → Int) (k : Nat), k ∉ l.map eNo → turnsG f l k = f k
  | [], f, k, _ => rfl
  | s :: l, f, k, h => by
    rw [List.map_cons, List.mem_cons, not_or] at h
    have := turnsG_other l (turnG f s) k h.2
    unfold turnsG at this ⊢
    rw [List.foldl_cons, this]
    unfold turnG; exact upd_ne h.1
theorem turnsG_at : ∀ (l : List Int) (f : Nat → Int), (l.map eNo).Nodup → ∀ s ∈ l, turnsG f l (eNo s) = f (eNo s) + sg s
  | [], f, _, s, hs => by simp at hs
  | t :: l, f, h, s, hs => by
    rw [List.map_cons, List.nodup_cons] at h
    rcases List.mem_cons.1 hs with rfl | hs
    · have := turnsG_other l (turnG f s) (eNo s) h.1
      unfold turnsG at this ⊢
      rw [List.foldl_cons, this]
      unfold turnG; rw [upd_same]
    · have hne : eNo s ≠ eNo t := fun e => h.1 (by rw [← e]; exact List.mem_map_of_mem hs)
      have := turnsG_at l (turnG f t) h.2 s hs
      unfold turnsG at this ⊢
      rw [List.foldl_cons, this]
      unfold turnG; rw [upd_ne hne]
theorem turnsG_fs {G : NetG} {f : Nat → Int} {l : List Int} (hf : G.Fs f) (hl : ∀ s ∈ l, G.Ok f s) (hn : (l.map eNo).Nodup) : G.Fs (turnsG f l) := by
  intro k hk
  by_cases hm : k ∈ l.map eNo
  · obtain ⟨s, hs, rfl⟩ := List.mem_map.1 hm
    rw [turnsG_at l f hn s hs]
    have h1 := (hl s hs).2
    have h2 := hf _ hk
    unfold sg
    split at h1
    · rename_i h3; rw [if_pos h3]; omega
    · rename_i h3; rw [if_neg h3]; omega
  · rw [turnsG_other l f k hm]; exact hf k hk
/-- prices that are tight along the steps serve the turned flow -/
theorem turnsG_pot {G : NetG} {f p : Nat → Int} {l L M : List Int} (hL : G.Steps f L) (hM : G.Steps (turnsG f l) M) (hp : G.arcs.Pot L p) (hl : ∀ s ∈ l, G.Ok f s) (ht : ∀ s ∈ l, p (G.arcs.to s) = G.arcs.ln s + p (G.arcs.fr s)) : G.arcs.Pot M p := by
  intro s hs
  obtain ⟨h1, h2⟩ := (hM s).1 hs
  by_cases hm : eNo s ∈ l.map eNo
  · obtain ⟨t, htl, e⟩ := List.mem_map.1 hm
    have h3 := ht t htl
    rcases eNo_eq (hl t htl).1.1 h1.1 e with rfl | rfl
    · omega
    · have e2 : eNo (-s) = eNo s := e
      have hne : s ≠ 0 := fun h => by have := h1.1; rw [h] at this; simp at this
      simp only [NetG.arcs, e2] at h3 ⊢
      by_cases hneg : s < 0
      · rw [if_neg (by omega), if_neg (by omega), if_neg (by omega)] at h3
        rw [if_pos hneg, if_pos hneg, if_pos hneg]; omega
      · rw [if_pos (by omega), if_pos (by omega), if_pos (by omega)] at h3
        rw [if_neg hneg, if_neg hneg, if_neg hneg]; omega
  · rw [turnsG_other l f _ hm] at h2
    exact hp s ((hL s).2 ⟨h1, h2⟩)
/-- the steps of a chain go along different roads -/
theorem chn_roads {G : NetG} {b : Nat → Option Int} {N : Nat} {f : Nat → Int} {L : List Int} (hL : G.Steps f L) (hb : ∀ v, v < N → ∀ s, b v = some s → s ∈ L ∧ G.arcs.to s = v ∧ G.arcs.fr s < N) {v : Nat} {l : List Int} {r : Nat} (hc : Chn G.arcs b v l r) : v < N → (l.map eNo).Nodup := by
  induction hc with
  | nil _ => intro _; simp
  | @cons v s l r h1 h2 ih =>
    intro hv
    obtain ⟨e1, e2, e3⟩ := hb v hv s h1
    rw [List.map_cons, List.nodup_cons]
    refine ⟨fun hm => ?_, ih e3⟩
    have hl : ∀ t ∈ l, t ∈ L := h2.arcs (P := fun v => v < N) (Q := fun t => t ∈ L) e3 (fun v t hv ht => ⟨(hb v hv t ht).2.2, (hb v hv t ht).1⟩)
    obtain ⟨t, ht, e⟩ := List.mem_map.1 hm
    have hs1 := ((hL s).1 e1).1
    have nd : (v :: nodesOf G.arcs (s :: l)).Nodup := Chn.nodup (.cons h1 h2)
    have nd2 : (G.arcs.fr s :: nodesOf G.arcs l).Nodup := h2.nodup
    have hft : G.arcs.fr t ∈ nodesOf G.arcs l := List.mem_map_of_mem ht
    rcases eNo_eq ((hL t).1 (hl t ht)).1.1 hs1.1 e with rfl | rfl
    · exact (List.nodup_cons.1 nd2).1 hft
    · have e4 : G.arcs.fr (-s) = G.arcs.to s := by
        have e5 : eNo (-s) = eNo s := e
        have := hs1.1
        simp only [NetG.arcs, e5]
        split <;> split <;> first | rfl | omega
      rw [e4, e2] at hft
      refine (List.nodup_cons.1 nd).1 ?_
      simp only [nodesOf, List.map_cons]
      exact List.mem_cons_of_mem _ hft
theorem chn_end {G : NetG} {b : Nat → Option Int} {N : Nat} (hb : ∀ v, v < N → ∀ s, b v = some s → G.arcs.to s = v ∧ G.arcs.fr s < N) {v : Nat} {l : List Int} {r : Nat} (hc : Chn G.arcs b v l r) (w : Nat) : v < N → sumEnd G w l = one r w - one v w := by
  induction hc with
  | nil _ => intro _; simp only [sumEnd]; omega
  | @cons v s l r h1 h2 ih =>
    intro hv
    obtain ⟨e1, e2⟩ := hb v hv s h1
    simp only [sumEnd]
    rw [ih e2, e1]; omega
/-! barriers -/
def sumS (x : Nat → Int) (S : Nat → Bool) (N : Nat) : Int := sumN (fun v => if S v then x v else 0) N
def NetG.cut (G : NetG) (S : Nat → Bool) : Int := sumN (fun k => if S (G.fr k) && !S (G.to k) then G.wd k else 0) G.K
theorem sumS_out {G : NetG} {N : Nat} (hG : G.Fine N) (f : Nat → Int) (S : Nat → Bool) : sumS (G.out f) S N = sumN (fun k => f k * ((if S (G.fr k) then 1 else 0) - (if S (G.to k) then 1 else 0))) G.K := by
  have := sum_out hG (fun v => if S v then 1 else 0) f
  rw [← this]
  unfold sumS
  exact sumN_congr fun v _ => by split <;> omega
theorem out_le_cut {G : NetG} {N : Nat} (hG : G.Fine N) {f : Nat → Int} (hf : G.Fs f) (S : Nat → Bool) : sumS (G.out f) S N ≤ G.cut S := by
  rw [sumS_out hG]
  refine sumN_le fun k hk => ?_
  have h1 := hf k hk
  cases S (G.fr k) <;> cases S (G.to k) <;> simp <;> omega
theorem out_eq_cut {G : NetG} {N : Nat} (hG : G.Fine N) {f : Nat → Int} {L : List Int} (hf : G.Fs f) (hL : G.Steps f L) (S : Nat → Bool) (hS : ∀ s ∈ L, S (G.arcs.fr s) = true → S (G.arcs.to s) = true) : sumS (G.out f) S N = G.cut S := by
  rw [sumS_out hG]
  refine sumN_congr fun k hk => ?_
  have h1 := hf k hk
  have h2 : S (G.fr k) = true → S (G.to k) = false → f k = G.wd k := fun a b => Classical.byContradiction fun hn => by
    have := hS _ ((hL _).2 (ok_pos hk (show f k < G.wd k by omega)))
    simp only [NetG.arcs, eNo_pos] at this
    rw [if_neg (by omega), if_neg (by omega)] at this
    rw [this a] at b; simp at b
  have h3 : S (G.to k) = true → S (G.fr k) = false → f k = 0 := fun a b => Classical.byContradiction fun hn => by
    have := hS _ ((hL _).2 (ok_neg hk (show 0 < f k by omega)))
    simp only [NetG.arcs, eNo_neg] at this
    rw [if_pos (by omega), if_pos (by omega)] at this
    rw [this a] at b; simp at b
  cases e1 : S (G.fr k) <;> cases e2 : S (G.to k) <;> simp [e1, e2] at h2 h3 ⊢ <;> omega

/- Plain words of flows: one unit more along a chain; what is left when no chain leads on. No program in sight. -/

/-- a flow with prices, and what it leaves of an excess -/
structure ShipInv (G : NetG) (N : Nat) (x f l : Nat → Int) : Prop where
  fs : G.Fs f
  out : ∀ v, v < N → G.out f v + l v = x v
  pot : ∃ p : Nat → Int, ∀ s, G.Ok f s → p (G.arcs.to s) ≤ G.arcs.ln s + p (G.arcs.fr s)
theorem pot_of {G : NetG} {f p : Nat → Int} {L : List Int} (hL : G.Steps f L) (h : ∀ s, G.Ok f s → p (G.arcs.to s) ≤ G.arcs.ln s + p (G.arcs.fr s)) : G.arcs.Pot L p := fun s hs => h s ((hL s).1 hs)
theorem of_pot {G : NetG} {f p : Nat → Int} {L : List Int} (hL : G.Steps f L) (h : G.arcs.Pot L p) : ∀ s, G.Ok f s → p (G.arcs.to s) ≤ G.arcs.ln s + p (G.arcs.fr s) := fun s hs => h s ((hL s).2 hs)
theorem ship_zero {G : NetG} {N : Nat} (x : Nat → Int) (hw : ∀ k, k < G.K → 0 ≤ G.wd k) (hl : ∀ k, k < G.K → 0 ≤ G.ln k) : ShipInv G N x (fun _ => 0) x := by
  refine ⟨fun k hk => ⟨Int.le_refl _, hw k hk⟩, fun v _ => ?_, fun _ => 0, fun s hs => ?_⟩
  · have : G.out (fun _ => 0) v = 0 := by
      unfold NetG.out
      rw [sumN_congr (g := fun _ => 0) (fun k _ => by simp)]
      exact sumN_zero _
    omega
  · have h1 := hl _ (eNo_lt hs.1)
    have h2 := hs.2
    simp only [NetG.arcs]
    split at h2
    · exact absurd h2 (by simp)
    · rename_i h; rw [if_neg h]; omega
/-- labels stay far below far -/
theorem LEnd.near {G : NetG} {far : Int} {N : Nat} {L : List Int} {p first at_ : Nat → Int} {b : Nat → Option Int} (h : LEnd G.arcs far N L p first at_ b) (hL : G.arcs.In N L) {K : Int} (hK : 0 ≤ K) (hl : ∀ s ∈ L, -K ≤ G.arcs.ln s ∧ G.arcs.ln s ≤ K) (hfirst : ∀ v, v < N → first v = far ∨ first v = 0) (hfar : N * K < far) :
    (∀ v, v < N → at_ v < far → -((N - 1) * K) ≤ at_ v ∧ at_ v ≤ (N - 1) * K) ∧ ∀ s ∈ L, at_ (G.arcs.fr s) < far → at_ (G.arcs.to s) < far := by
  have h1 : ∀ v, v < N → at_ v < far → -((N - 1) * K) ≤ at_ v ∧ at_ v ≤ (N - 1) * K := fun v hv hf => by
    obtain ⟨r, r1, r2, r3, r4, r5, r6⟩ := h.bd hL hK hl hv
    have := r4 hf
    rcases hfirst r r1 with e | e
    · omega
    · rw [e] at r5 r6; omega
  refine ⟨h1, fun s hs hf => ?_⟩
  have h2 := h1 _ (hL s hs).1 hf
  have h3 := h.sat s hs hf
  have h4 := hl s hs
  have h5 : ((N : Int) - 1) * K = N * K - K := by rw [Int.sub_mul]; omega
  omega
theorem ship_more {G : NetG} {far : Int} {N : Nat} (hG : G.Fine N) {x f l : Nat → Int} (h : ShipInv G N x f l) {L : List Int} (hL : G.Steps f L) {p first at_ : Nat → Int} {b : Nat → Option Int} (hp : G.arcs.Pot L p) (hE : LEnd G.arcs far N L p first at_ b)
    {K : Int} (hK : 0 ≤ K) (hl : ∀ s ∈ L, -K ≤ G.arcs.ln s ∧ G.arcs.ln s ≤ K) (hfar : N * K < far) (hfirst : ∀ v, v < N → first v = far ∨ (first v = 0 ∧ 0 < l v))
    {best : Nat} (hb : best < N) (hb2 : at_ best < far) : ∃ c r, Chn G.arcs b best c r ∧ r < N ∧ 0 < l r ∧ c.length + 1 ≤ N ∧ ShipInv G N x (turnsG f c) (fun v => l v + one best v - one r v) := by
  have hin := steps_in hG hL
  obtain ⟨c, r, hc⟩ := hE.ends best hb
  obtain ⟨h1, h2, h3, h4, h5⟩ := hE.tele hin hb hc
  obtain ⟨_, hn2⟩ := hE.near hin hK hl (fun v hv => (hfirst v hv).imp id (fun h => h.1)) hfar
  have hr : 0 < l r := by
    have := h5 hb2
    rcases hfirst r h2 with e | e
    · omega
    · exact e.2
  have hedge : ∀ v, v < N → ∀ s, b v = some s → s ∈ L ∧ G.arcs.to s = v ∧ G.arcs.fr s < N := fun v hv s hs => by
    obtain ⟨e1, e2, _⟩ := hE.edge v hv s hs
    exact ⟨e1, e2, (hin s e1).1⟩
  have hok : ∀ s ∈ c, G.Ok f s := fun s hs => (hL s).1 (h3 s hs)
  have hnd := chn_roads hL hedge hc hb
  have hfs := turnsG_fs h.fs hok hnd
  refine ⟨c, r, hc, h2, hr, hc.short hin hb h3, hfs, fun v hv => ?_, ?_⟩
  · rw [turnsG_out v c f (fun s hs => (hok s hs).1), chn_end (fun v hv s hs => (hedge v hv s hs).2) hc v hb]
    have := h.out v hv
    omega
  · refine ⟨capP far p at_ (at_ best - p best), fun s hs => ?_⟩
    have hpot := capP_pot (c := at_ best - p best) hE.sat hp hn2
    have htight := capP_tight hE hin hp hb hb2 hc
    by_cases hm : eNo s ∈ c.map eNo
    · obtain ⟨t, htl, e⟩ := List.mem_map.1 hm
      have h3 := htight t htl
      rcases eNo_eq (hok t htl).1.1 hs.1.1 e with rfl | rfl
      · omega
      · have e2 : eNo (-s) = eNo s := e
        have := hs.1.1
        simp only [NetG.arcs, e2] at h3 ⊢
        by_cases hneg : s < 0
        · rw [if_neg (by omega), if_neg (by omega), if_neg (by omega)] at h3
          rw [if_pos hneg, if_pos hneg, if_pos hneg]; omega
        · rw [if_pos (by omega), if_pos (by omega), if_pos (by omega)] at h3
          rw [if_neg hneg, if_neg hneg, if_neg hneg]; omega
    · obtain ⟨q1, q2⟩ := hs
      rw [turnsG_other c f _ hm] at q2
      exact hpot s ((hL s).2 ⟨q1, q2⟩)
def NetG.Dam (G : NetG) (N : Nat) (x : Nat → Int) (S : Nat → Bool) : Prop := G.cut S < sumS x S N
theorem dam_none {G : NetG} {N : Nat} (hG : G.Fine N) {x : Nat → Int} {S : Nat → Bool} (h : G.Dam N x S) {g : Nat → Int} (hg : G.Fs g) : ¬ ∀ v, v < N → G.out g v = x v := fun ho => by
  have h1 := out_le_cut hG hg S
  have h2 : sumS (G.out g) S N = sumS x S N := sumN_congr fun v hv => by rw [ho v hv]
  unfold NetG.Dam at h
  omega
theorem sumS_add (f g : Nat → Int) (S : Nat → Bool) (N : Nat) : sumS (fun v => f v + g v) S N = sumS f S N + sumS g S N := by
  unfold sumS
  rw [← sumN_add]
  exact sumN_congr fun v _ => by cases S v <;> simp
theorem sumN_term {f : Nat → Int} {n : Nat} (h : ∀ i, i < n → 0 ≤ f i) {a : Nat} (ha : a < n) : f a ≤ sumN f n := by
  have h1 := sumN_pick f a n
  rw [if_pos ha] at h1
  rw [← h1]
  exact sumN_le fun i hi => by have := h i hi; split <;> omega
/-- no chain leads on: what is reached is a barrier -/
theorem ship_stuck {G : NetG} {far : Int} {N : Nat} (hG : G.Fine N) {x f l : Nat → Int} (h : ShipInv G N x f l) {L : List Int} (hL : G.Steps f L) {p first at_ : Nat → Int} {b : Nat → Option Int} (hE : LEnd G.arcs far N L p first at_ b)
    {K : Int} (hK : 0 ≤ K) (hl : ∀ s ∈ L, -K ≤ G.arcs.ln s ∧ G.arcs.ln s ≤ K) (hfar : N * K < far) (hfirst : ∀ v, v < N → first v = far ∨ (first v = 0 ∧ 0 < l v))
    (hno : ∀ v, v < N → l v < 0 → ¬ at_ v < far) {a : Nat} (ha : a < N) (ha2 : first a = 0) : G.Dam N x (fun v => decide (at_ v < far)) := by
  have hin := steps_in hG hL
  obtain ⟨_, hn2⟩ := hE.near hin hK hl (fun v hv => (hfirst v hv).imp id (fun h => h.1)) hfar
  have hfar0 : 0 < far := by have : 0 ≤ (N : Int) * K := Int.mul_nonneg (by omega) hK; omega
  have h1 := out_eq_cut hG h.fs hL (fun v => decide (at_ v < far)) (fun s hs => by simp only [decide_eq_true_eq]; exact hn2 s hs)
  have h2 : sumS x (fun v => decide (at_ v < far)) N = sumS (G.out f) (fun v => decide (at_ v < far)) N + sumS l (fun v => decide (at_ v < far)) N := by
    rw [← sumS_add]
    exact sumN_congr fun v hv => by simp only [h.out v hv]
  have h3 : l a ≤ sumS l (fun v => decide (at_ v < far)) N := by
    have hle := hE.le a ha
    have := sumN_term (f := fun v => if decide (at_ v < far) then l v else 0) (n := N) (fun v hv => by
      by_cases hc : at_ v < far
      · have := hno v hv
        rw [if_pos (by simpa using hc)]
        omega
      · rw [if_neg (by simpa using hc)]; omega) ha
    rw [if_pos (by simp; omega)] at this
    exact this
  have h4 : 0 < l a := by
    rcases hfirst a ha with e | e
    · omega
    · exact e.2
  unfold NetG.Dam
  omega
/-- how much is too much -/
def over (l : Nat → Int) (N : Nat) : Int := sumN (fun v => max (l v) 0) N
theorem over_nonneg (l : Nat → Int) (N : Nat) : 0 ≤ over l N := sumN_nonneg fun v _ => by omega
theorem over_step {l : Nat → Int} {N best r : Nat} (hb : l best < 0) (hr : 0 < l r) (hrN : r < N) : over (fun v => l v + one best v - one r v) N = over l N - 1 := by
  unfold over
  have h1 := sum_one (fun _ => 1) hrN
  have key : ∀ v, max (l v + one best v - one r v) 0 = max (l v) 0 + (-1) * (1 * one r v) := fun v => by
    unfold one
    by_cases e1 : best = v
    · by_cases e2 : r = v
      · subst e1; subst e2; omega
      · subst e1; rw [if_pos rfl, if_neg e2]; omega
    · by_cases e2 : r = v
      · subst e2; rw [if_neg e1, if_pos rfl]; omega
      · rw [if_neg e1, if_neg e2]; omega
  rw [sumN_congr (g := fun v => max (l v) 0 + (-1) * (1 * one r v)) (fun v _ => key v), sumN_add, sumN_mul, h1]
  omega
theorem over_zero {l : Nat → Int} {N : Nat} (h : over l N = 0) : ∀ v, v < N → l v ≤ 0 := fun v hv => by
  have := sumN_all0 (f := fun v => max (l v) 0) (n := N) (fun v _ => by omega) (by unfold over at h; omega) v hv
  omega
/-- nothing too much, and no too little: all is moved -/
theorem left_zero {l : Nat → Int} {N : Nat} (h : ∀ v, v < N → l v ≤ 0) (hs : sumN l N = 0) : ∀ v, v < N → l v = 0 := fun v hv => by
  have := sumN_all0 (f := fun v => (-1) * l v) (n := N) (fun v hv => by have := h v hv; omega) (by rw [sumN_mul]; omega) v hv
  omega
theorem out_sum {G : NetG} {N : Nat} (hG : G.Fine N) (f : Nat → Int) : sumN (G.out f) N = 0 := by
  have := sum_out hG (fun _ => 1) f
  rw [sumN_congr (f := fun v => 1 * G.out f v) (g := G.out f) (fun v _ => by omega), sumN_congr (f := fun k => f k * (1 - 1)) (g := fun _ => 0) (fun k _ => by omega), sumN_zero] at this
  exact this

/- Plain words of a transport, told as a net: rows to columns. No program in sight. -/

theorem sumN_app (f : Nat → Int) (a : Nat) : ∀ b, sumN f (a + b) = sumN f a + sumN (fun i => f (a + i)) b
  | 0 => by simp [sumN]
  | b + 1 => by
    show sumN f (a + b) + f (a + b) = _
    rw [sumN_app f a b]; simp only [sumN]; omega
theorem div_at {m i j : Nat} (h : j < m) : (i * m + j) / m = i ∧ (i * m + j) % m = j := by
  constructor
  · rw [Nat.mul_comm, Nat.mul_add_div (by omega), Nat.div_eq_of_lt h]; omega
  · rw [Nat.mul_comm, Nat.mul_add_mod, Nat.mod_eq_of_lt h]
theorem at_div {m k n : Nat} (h : k < n * m) : k / m < n ∧ k % m < m ∧ k / m * m + k % m = k := by
  have hm : 0 < m := Nat.pos_of_ne_zero fun e => by subst e; simp at h
  exact ⟨(Nat.div_lt_iff_lt_mul hm).2 h, Nat.mod_lt _ hm, by rw [Nat.mul_comm]; exact Nat.div_add_mod k m⟩
theorem lt_at {n m i j : Nat} (hi : i < n) (hj : j < m) : i * m + j < n * m := by
  have := Nat.mul_le_mul_right m (show i + 1 ≤ n from hi)
  rw [Nat.add_mul, Nat.one_mul] at this
  omega
theorem sumN_rows (F : Nat → Nat → Int) {m : Nat} : ∀ n, sumN (fun k => F (k / m) (k % m)) (n * m) = sumN (fun i => sumN (F i) m) n
  | 0 => by simp [sumN]
  | n + 1 => by
    rw [Nat.add_mul, Nat.one_mul, sumN_app, sumN_rows F n]
    simp only [sumN]
    congr 1
    exact sumN_congr fun j hj => by rw [(div_at hj).1, (div_at hj).2]
theorem one_comm (a b : Nat) : one a b = one b a := by unfold one; by_cases h : a = b; rw [if_pos h, if_pos h.symm]; rw [if_neg h, if_neg (fun e => h e.symm)]
def netT (n m : Nat) (c : Nat → Nat → Int) (W : Int) : NetG := ⟨n * m, fun k => k / m, fun k => n + k % m, fun k => c (k / m) (k % m), fun _ => W⟩
def flowT (m : Nat) (P : Nat → Nat → Int) (k : Nat) : Int := P (k / m) (k % m)
theorem netT_fine (n m : Nat) (c : Nat → Nat → Int) (W : Int) : (netT n m c W).Fine (n + m) := fun k hk => by
  obtain ⟨h1, h2, _⟩ := at_div (show k < n * m from hk)
  exact ⟨by show k / m < _; omega, by show n + k % m < _; omega⟩
section
variable {n m : Nat} {c P Q : Nat → Nat → Int} {W : Int}
theorem sumN_dist (f : Nat → Int) (x : Int) (n : Nat) : sumN (fun i => f i * x) n = sumN f n * x := by
  rw [sumN_congr (g := fun i => x * f i) (fun i _ => Int.mul_comm _ _), sumN_mul, Int.mul_comm]
theorem out_row {i : Nat} (hi : i < n) : (netT n m c W).out (flowT m P) i = sumN (P i) m := by
  show sumN (fun k => P (k / m) (k % m) * (one (k / m) i - one (n + k % m) i)) (n * m) = _
  rw [sumN_rows (fun p q => P p q * (one p i - one (n + q) i)) n]
  rw [sumN_congr (g := fun p => sumN (P p) m * one i p) (fun p _ => by
    rw [← sumN_dist]
    refine sumN_congr fun q _ => ?_
    rw [one_comm p i]
    have : one (n + q) i = 0 := by unfold one; rw [if_neg (by omega)]
    rw [this]; simp)]
  exact sum_one _ hi
theorem out_col {j : Nat} (hj : j < m) : (netT n m c W).out (flowT m P) (n + j) = -sumN (fun i => P i j) n := by
  show sumN (fun k => P (k / m) (k % m) * (one (k / m) (n + j) - one (n + k % m) (n + j))) (n * m) = _
  rw [sumN_rows (fun p q => P p q * (one p (n + j) - one (n + q) (n + j))) n]
  rw [sumN_congr (g := fun p => (-1) * P p j) (fun p hp => by
    rw [sumN_congr (g := fun q => (-1 * P p q) * one j q) (fun q _ => by
      have e1 : one p (n + j) = 0 := by unfold one; rw [if_neg (by omega)]
      have e2 : one (n + q) (n + j) = one j q := by
        unfold one
        by_cases h : j = q
        · rw [if_pos h, if_pos (by omega)]
        · rw [if_neg h, if_neg (by omega)]
      rw [e1, e2]
      generalize one j q = z
      grind)]
    rw [sum_one (fun q => -1 * P p q) hj])]
  rw [sumN_mul]; omega
theorem cost_T : (netT n m c W).cost (flowT m P) = sumN (fun i => sumN (fun j => c i j * P i j) m) n := by
  show sumN (fun k => c (k / m) (k % m) * P (k / m) (k % m)) (n * m) = _
  exact sumN_rows (fun p q => c p q * P p q) n
/-! plans and prices -/
/-- a plan between masses -/
structure PlanT (n m : Nat) (a b : Nat → Int) (P : Nat → Nat → Int) : Prop where
  pos : ∀ i j, i < n → j < m → 0 ≤ P i j
  rows : ∀ i, i < n → sumN (P i) m = a i
  cols : ∀ j, j < m → sumN (fun i => P i j) n = b j
def costT (n m : Nat) (c P : Nat → Nat → Int) : Int := sumN (fun i => sumN (fun j => c i j * P i j) m) n
def worthT (n m : Nat) (a b u v : Nat → Int) : Int := sumN (fun i => a i * u i) n + sumN (fun j => b j * v j) m
theorem worth_plan {a b u v : Nat → Int} (h : PlanT n m a b P) : worthT n m a b u v = costT n m (fun i j => u i + v j) P := by
  unfold worthT costT
  have e : ∀ i, sumN (fun j => (u i + v j) * P i j) m = sumN (P i) m * u i + sumN (fun j => v j * P i j) m := fun i => by
    rw [← sumN_dist, ← sumN_add]
    exact sumN_congr fun j _ => by grind
  rw [sumN_congr (fun i _ => e i), sumN_add]
  rw [sumN_swap (fun i j => v j * P i j) m n]
  congr 1
  · exact sumN_congr fun i hi => by rw [h.rows i hi]
  · refine sumN_congr fun j hj => ?_
    rw [sumN_mul, h.cols j hj, Int.mul_comm]
theorem costT_le {c d : Nat → Nat → Int} (h : ∀ i j, i < n → j < m → c i j * P i j ≤ d i j * P i j) : costT n m c P ≤ costT n m d P :=
  sumN_le fun i hi => sumN_le fun j hj => h i j hi hj
theorem costT_eq {c d : Nat → Nat → Int} (h : ∀ i j, i < n → j < m → c i j * P i j = d i j * P i j) : costT n m c P = costT n m d P :=
  sumN_congr fun i hi => sumN_congr fun j hj => h i j hi hj
/-- prices that hold are worth no more than any plan costs -/
theorem worth_le {a b u v : Nat → Int} (h : PlanT n m a b P) (hp : ∀ i j, i < n → j < m → u i + v j ≤ c i j) : worthT n m a b u v ≤ costT n m c P := by
  rw [worth_plan h]
  exact costT_le fun i j hi hj => Int.mul_le_mul_of_nonneg_right (hp i j hi hj) (h.pos i j hi hj)
/-- .. and as much where they are tight -/
theorem worth_eq {a b u v : Nat → Int} (h : PlanT n m a b P) (hp : ∀ i j, i < n → j < m → 0 < P i j → u i + v j = c i j) : worthT n m a b u v = costT n m c P := by
  rw [worth_plan h]
  refine costT_eq fun i j hi hj => ?_
  have := h.pos i j hi hj
  by_cases h0 : 0 < P i j
  · rw [hp i j hi hj h0]
  · rw [show P i j = 0 by omega]; omega
/-- a part of a plan, with prices that prove it -/
structure PartT (n m : Nat) (c : Nat → Nat → Int) (a b : Nat → Int) (P : Nat → Nat → Int) : Prop where
  pos : ∀ i j, i < n → j < m → 0 ≤ P i j
  rows : ∀ i, i < n → sumN (P i) m ≤ a i
  cols : ∀ j, j < m → sumN (fun i => P i j) n ≤ b j
  pot : ∃ u v : Nat → Int, ∀ i j, i < n → j < m → u i + v j ≤ c i j ∧ (0 < P i j → u i + v j = c i j)
theorem PartT.zero {a b : Nat → Int} (hc : ∀ i j, i < n → j < m → 0 ≤ c i j) (ha : ∀ i, i < n → 0 ≤ a i) (hb : ∀ j, j < m → 0 ≤ b j) : PartT n m c a b (fun _ _ => 0) :=
  ⟨fun _ _ _ _ => Int.le_refl _, fun i hi => by rw [sumN_zero]; exact ha i hi, fun j hj => by rw [sumN_zero]; exact hb j hj, fun _ => 0, fun _ => 0, fun i j hi hj => ⟨by have := hc i j hi hj; show (0 : Int) + 0 ≤ _; omega, fun h => absurd h (by omega)⟩⟩
def colsLeft (n m : Nat) (b : Nat → Int) (P : Nat → Nat → Int) : Int := sumN (fun j => b j - sumN (fun i => P i j) n) m
theorem total_rows (P : Nat → Nat → Int) : sumN (fun i => sumN (P i) m) n = sumN (fun j => sumN (fun i => P i j) n) m := sumN_swap P m n
/-- nothing left of the columns: it is a plan -/
theorem PartT.full {a b : Nat → Int} (h : PartT n m c a b P) (hab : sumN a n = sumN b m) (h0 : ∀ j, j < m → ¬ 0 < b j - sumN (fun i => P i j) n) : PlanT n m a b P := by
  have hc : ∀ j, j < m → sumN (fun i => P i j) n = b j := fun j hj => by have := h.cols j hj; have := h0 j hj; omega
  have h1 : sumN (fun i => a i - sumN (P i) m) n = 0 := by
    have e := sumN_add (fun i => a i - sumN (P i) m) (fun i => sumN (P i) m) n
    rw [sumN_congr (g := a) (fun i _ => by omega), total_rows, sumN_congr (f := fun j => sumN (fun i => P i j) n) (g := b) hc] at e
    omega
  exact ⟨h.pos, fun i hi => by have := sumN_all0 (f := fun i => a i - sumN (P i) m) (n := n) (fun i hi => by have := h.rows i hi; omega) (by omega) i hi; omega, hc⟩
def potT (n : Nat) (u p : Nat → Int) (v : Nat) : Int := if v < n then -u v else p (v - n)
theorem potT_row {n v : Nat} (u p : Nat → Int) (h : v < n) : potT n u p v = -u v := if_pos h
theorem potT_col (n : Nat) (u p : Nat → Int) (j : Nat) : potT n u p (n + j) = p j := by unfold potT; rw [if_neg (by omega), show n + j - n = j by omega]
/-- prices of a flow of the net -/
theorem part_ship {a b : Nat → Int} (hW : ∀ i j, i < n → j < m → P i j < W) (h : PartT n m c a b P) :
    ShipInv (netT n m c W) (n + m) (fun v => if v < n then a v else -b (v - n)) (flowT m P) (fun v => if v < n then a v - sumN (P v) m else -(b (v - n) - sumN (fun i => P i (v - n)) n)) := by
  refine ⟨fun k hk => ?_, fun v hv => ?_, ?_⟩
  · obtain ⟨h1, h2, _⟩ := at_div (show k < n * m from hk)
    exact ⟨h.pos _ _ h1 h2, Int.le_of_lt (hW _ _ h1 h2)⟩
  · by_cases hn : v < n
    · rw [out_row hn, if_pos hn, if_pos hn]; omega
    · obtain ⟨j, rfl⟩ : ∃ j, v = n + j := ⟨v - n, by omega⟩
      rw [out_col (by omega), if_neg hn, if_neg hn, show n + j - n = j by omega]; omega
  · obtain ⟨u, p, hp⟩ := h.pot
    refine ⟨potT n u p, fun s hs => ?_⟩
    obtain ⟨h1, h2⟩ := hs
    obtain ⟨d1, d2, d3⟩ := at_div (show eNo s < n * m from eNo_lt h1)
    have h3 := hp _ _ d1 d2
    simp only [NetG.arcs, netT]
    split at h2
    · rename_i hneg
      have h4 := h3.2 h2
      rw [if_pos hneg, if_pos hneg, if_pos hneg, potT_row _ _ d1, potT_col]; omega
    · rename_i hneg
      rw [if_neg hneg, if_neg hneg, if_neg hneg, potT_row _ _ d1, potT_col]; omega
theorem ship_part {a b x l : Nat → Int} (h : ShipInv (netT n m c W) (n + m) x (flowT m P) l) (hW : ∀ i j, i < n → j < m → P i j < W) (hx : ∀ i, i < n → x i = a i) (hy : ∀ j, j < m → x (n + j) = -b j) (hl : ∀ i, i < n → 0 ≤ l i) (hl2 : ∀ j, j < m → l (n + j) ≤ 0) : PartT n m c a b P := by
  have e1 : ∀ i, i < n → sumN (P i) m + l i = a i := fun i hi => by have := h.out i (by omega); rw [out_row hi, hx i hi] at this; exact this
  have e2 : ∀ j, j < m → -sumN (fun i => P i j) n + l (n + j) = -b j := fun j hj => by have := h.out (n + j) (by omega); rw [out_col hj, hy j hj] at this; exact this
  refine ⟨fun i j hi hj => ?_, fun i hi => ?_, fun j hj => ?_, ?_⟩
  · have := (h.fs (i * m + j) (lt_at hi hj)).1
    unfold flowT at this
    rwa [(div_at hj).1, (div_at hj).2] at this
  · have := e1 i hi; have := hl i hi; omega
  · have := e2 j hj; have := hl2 j hj; omega
  · obtain ⟨p, hp⟩ := h.pot
    refine ⟨fun i => -p i, fun j => p (n + j), fun i j hi hj => ?_⟩
    have hk := lt_at hi hj
    obtain ⟨d1, d2⟩ := div_at (i := i) hj
    have h1 := hp _ (ok_pos (G := netT n m c W) (f := flowT m P) hk (by show P ((i * m + j) / m) ((i * m + j) % m) < W; rw [d1, d2]; exact hW i j hi hj))
    simp only [NetG.arcs, netT, eNo_pos] at h1
    rw [if_neg (by omega), if_neg (by omega), if_neg (by omega), d1, d2] at h1
    show -p i + p (n + j) ≤ c i j ∧ (0 < P i j → -p i + p (n + j) = c i j)
    refine ⟨by omega, fun h0 => ?_⟩
    have h2 := hp _ (ok_neg (G := netT n m c W) (f := flowT m P) hk (by show 0 < P ((i * m + j) / m) ((i * m + j) % m); rw [d1, d2]; exact h0))
    simp only [NetG.arcs, netT, eNo_neg] at h2
    rw [if_pos (by omega), if_pos (by omega), if_pos (by omega), d1, d2] at h2
    omega
end

end Go.Proofs.Ytfhgnmijigdlmaa.Tr
