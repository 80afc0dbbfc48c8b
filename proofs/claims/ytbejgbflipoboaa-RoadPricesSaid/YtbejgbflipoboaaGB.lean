/- Plain words of labels along arcs: the chains back, and prices made of labels. No program in sight. -/
import Derived.Test.YtbejgbflipoboaaGA
namespace Go.Proofs.Ytbejgbflipoboaa

/-- the chain from a node back to where it begins -/
inductive Chn {α : Type} (A : Arcs α) (b : Nat → Option α) : Nat → List α → Nat → Prop
  | nil {v : Nat} : b v = none → Chn A b v [] v
  | cons {v : Nat} {s : α} {l : List α} {r : Nat} : b v = some s → Chn A b (A.fr s) l r → Chn A b v (s :: l) r
def sumLn {α : Type} (A : Arcs α) : List α → Int
  | [] => 0
  | s :: l => A.ln s + sumLn A l
section
variable {α : Type} {A : Arcs α} {far : Int}
theorem Chn.det {b : Nat → Option α} {v : Nat} {l : List α} {r : Nat} (h : Chn A b v l r) : ∀ {l' : List α} {r' : Nat}, Chn A b v l' r' → l = l' ∧ r = r' := by
  induction h with
  | nil h1 =>
    intro l' r' h2
    cases h2 with
    | nil _ => exact ⟨rfl, rfl⟩
    | cons h3 _ => rw [h1] at h3; exact absurd h3 (by simp)
  | cons h1 _ ih =>
    intro l' r' h2
    cases h2 with
    | nil h3 => rw [h1] at h3; exact absurd h3 (by simp)
    | cons h3 h4 =>
      rw [h1] at h3
      cases h3
      obtain ⟨e1, e2⟩ := ih h4
      exact ⟨by rw [e1], e2⟩
/-- the nodes of a chain behind its first one -/
def nodesOf (A : Arcs α) (l : List α) : List Nat := l.map A.fr
theorem Chn.at_node {b : Nat → Option α} {v : Nat} {l : List α} {r : Nat} (h : Chn A b v l r) : ∀ w, w ∈ v :: nodesOf A l → ∃ l', l'.length ≤ l.length ∧ (∀ s ∈ l', s ∈ l) ∧ Chn A b w l' r := by
  induction h with
  | nil h1 =>
    intro w hw
    simp only [nodesOf, List.map_nil, List.mem_singleton] at hw
    subst hw
    exact ⟨[], Nat.le_refl _, fun s h => h, .nil h1⟩
  | @cons v s l r h1 h2 ih =>
    intro w hw
    simp only [nodesOf, List.map_cons] at hw
    rcases List.mem_cons.1 hw with rfl | hw
    · exact ⟨s :: l, Nat.le_refl _, fun _ h => h, .cons h1 h2⟩
    · obtain ⟨l', h3, h4, h5⟩ := ih w hw
      exact ⟨l', by simp; omega, fun t ht => List.mem_cons_of_mem _ (h4 t ht), h5⟩
theorem Chn.nodup {b : Nat → Option α} {v : Nat} {l : List α} {r : Nat} (h : Chn A b v l r) : (v :: nodesOf A l).Nodup := by
  induction h with
  | nil _ => simp [nodesOf]
  | @cons v s l r h1 h2 ih =>
    rw [List.nodup_cons]
    refine ⟨fun hm => ?_, ih⟩
    obtain ⟨l', h3, _, h4⟩ := h2.at_node v hm
    have := (Chn.det (.cons h1 h2) h4).1
    rw [← this] at h3
    simp at h3
    omega
theorem Chn.in_ {b : Nat → Option α} {P : Nat → Prop} {v : Nat} {l : List α} {r : Nat} (h : Chn A b v l r) (hv : P v) (hs : ∀ v s, P v → b v = some s → P (A.fr s)) : P r ∧ (∀ w ∈ v :: nodesOf A l, P w) := by
  induction h with
  | nil _ => exact ⟨hv, fun w hw => by simp [nodesOf] at hw; subst hw; exact hv⟩
  | @cons v s l r h1 h2 ih =>
    obtain ⟨h3, h4⟩ := ih (hs _ _ hv h1)
    refine ⟨h3, fun w hw => ?_⟩
    rcases List.mem_cons.1 hw with rfl | hw
    · exact hv
    · exact h4 w (by simpa [nodesOf] using hw)
theorem Chn.arcs {b : Nat → Option α} {P : Nat → Prop} {Q : α → Prop} {v : Nat} {l : List α} {r : Nat} (h : Chn A b v l r) (hv : P v) (hs : ∀ v s, P v → b v = some s → P (A.fr s) ∧ Q s) : ∀ s ∈ l, Q s := by
  induction h with
  | nil _ => intro s h; simp at h
  | @cons v s l r h1 h2 ih =>
    intro t ht
    obtain ⟨h3, h4⟩ := hs _ _ hv h1
    rcases List.mem_cons.1 ht with rfl | ht
    · exact h4
    · exact ih h3 t ht
theorem Chn.root {b : Nat → Option α} {v : Nat} {l : List α} {r : Nat} (h : Chn A b v l r) : b r = none := by
  induction h with
  | nil h => exact h
  | cons _ _ ih => exact ih
/-- what holds of labels and chains at any time -/
structure LInv (A : Arcs α) (far : Int) (N : Nat) (L : List α) (p first : Nat → Int) (st : Lb α) : Prop where
  edge : ∀ v, v < N → ∀ s, st.by_ v = some s → s ∈ L ∧ A.to s = v ∧ st.at_ (A.fr s) < far ∧ st.at_ v < far ∧ st.at_ (A.fr s) + A.ln s ≤ st.at_ v
  root : ∀ v, v < N → st.by_ v = none → st.at_ v = first v
  ends : ∀ v, v < N → ∃ l r, Chn A st.by_ v l r
theorem linv_start {N : Nat} {L : List α} {p first : Nat → Int} : LInv A far N L p first ⟨first, fun _ => none, -1⟩ := ⟨fun v _ s h => by simp at h, fun v _ _ => rfl, fun v _ => ⟨[], v, .nil rfl⟩⟩
theorem LInv.last {N : Nat} {L : List α} {p first : Nat → Int} {st : Lb α} (h : LInv A far N L p first st) (k : Int) : LInv A far N L p first { st with last := k } := ⟨h.edge, h.root, h.ends⟩
/-- labels fall along chains, told with prices -/
theorem LInv.down {N : Nat} {L : List α} {p first : Nat → Int} {st : Lb α} (h : LInv A far N L p first st) (hL : A.In N L) (hp : A.Pot L p) {v : Nat} (hv : v < N) {l : List α} {r : Nat} (hc : Chn A st.by_ v l r) : ∀ w ∈ v :: nodesOf A l, st.at_ w - p w ≤ st.at_ v - p v := by
  induction hc with
  | nil _ => intro w hw; simp [nodesOf] at hw; subst hw; exact Int.le_refl _
  | @cons v s l r h1 h2 ih =>
    obtain ⟨e1, e2, e3, e4, e5⟩ := h.edge v hv s h1
    have hs := hL s e1
    intro w hw
    rcases List.mem_cons.1 hw with rfl | hw
    · exact Int.le_refl _
    · have := ih hs.1 w (by simpa [nodesOf] using hw)
      have := hp s e1
      rw [e2] at this
      omega
theorem LInv.relax {N : Nat} {L : List α} {p first : Nat → Int} {st : Lb α} (h : LInv A far N L p first st) (hL : A.In N L) (hp : A.Pot L p) (hf : ∀ v, v < N → st.at_ v ≤ far) {s : α} (hs : s ∈ L) : LInv A far N L p first (A.relax far st s) := by
  by_cases hc : A.Cond far st s
  case neg => rw [relax_idle hc]; exact h
  case pos =>
  have c1 := hc.1
  have c2 := hc.2
  have hs1 := hL s hs
  have hs2 := hp s hs
  have hft := hf (A.to s) hs1.2
  have hne : A.fr s ≠ A.to s := fun e => by rw [e] at c2 hs2; omega
  have hr : A.relax far st s = A.put st s := by unfold Arcs.relax; rw [if_pos hc]
  rw [hr]
  have notin : ∀ {w l r}, w < N → Chn A st.by_ w l r → A.to s ∉ w :: nodesOf A l → Chn A (A.put st s).by_ w l r := by
    intro w l r hw hch
    induction hch with
    | @nil w h1 =>
      intro hn
      refine .nil ?_
      show upd st.by_ _ _ w = none
      rw [upd_ne (fun e => hn (by rw [← e]; exact List.mem_cons_self))]; exact h1
    | @cons w t l r h1 h2 ih =>
      intro hn
      obtain ⟨e1, _⟩ := h.edge w hw t h1
      refine .cons (s := t) ?_ (ih (hL t e1).1 (fun hm => hn (List.mem_cons_of_mem _ (by simpa [nodesOf] using hm))))
      show upd st.by_ _ _ w = some t
      rw [upd_ne (fun e => hn (by rw [← e]; exact List.mem_cons_self))]; exact h1
  obtain ⟨lu, ru, hcu⟩ := h.ends (A.fr s) hs1.1
  have hnu : A.to s ∉ A.fr s :: nodesOf A lu := fun hm => by
    have := h.down hL hp hs1.1 hcu _ hm
    omega
  have hto : Chn A (A.put st s).by_ (A.to s) (s :: lu) ru := .cons (by show upd st.by_ _ _ _ = _; rw [upd_same]) (notin hs1.1 hcu hnu)
  refine ⟨fun v hv t ht => ?_, fun v hv hn => ?_, fun v hv => ?_⟩
  · have ht : upd st.by_ (A.to s) (some s) v = some t := ht
    show t ∈ L ∧ A.to t = v ∧ upd st.at_ (A.to s) (st.at_ (A.fr s) + A.ln s) (A.fr t) < far ∧ upd st.at_ (A.to s) (st.at_ (A.fr s) + A.ln s) v < far ∧ upd st.at_ (A.to s) (st.at_ (A.fr s) + A.ln s) (A.fr t) + A.ln t ≤ upd st.at_ (A.to s) (st.at_ (A.fr s) + A.ln s) v
    by_cases e : v = A.to s
    · subst e
      rw [upd_same] at ht
      cases ht
      rw [upd_same, upd_ne hne]
      exact ⟨hs, rfl, c1, by omega, Int.le_refl _⟩
    · rw [upd_ne e] at ht ⊢
      obtain ⟨e1, e2, e3, e4, e5⟩ := h.edge v hv t ht
      refine ⟨e1, e2, ?_, e4, ?_⟩
      · by_cases e6 : A.fr t = A.to s
        · rw [e6, upd_same]; omega
        · rw [upd_ne e6]; exact e3
      · by_cases e6 : A.fr t = A.to s
        · rw [e6, upd_same]; rw [e6] at e5; omega
        · rw [upd_ne e6]; exact e5
  · have hn : upd st.by_ (A.to s) (some s) v = none := hn
    by_cases e : v = A.to s
    · subst e; rw [upd_same] at hn; simp at hn
    · rw [upd_ne e] at hn
      show upd st.at_ _ _ v = _
      rw [upd_ne e]; exact h.root v hv hn
  · obtain ⟨l, r, hch⟩ := h.ends v hv
    -- up to the node that is told anew
    have key : ∀ {w l r}, w < N → Chn A st.by_ w l r → ∃ l' r', Chn A (A.put st s).by_ w l' r' := by
      intro w l r hw hch
      induction hch with
      | @nil w h1 =>
        by_cases e : w = A.to s
        · subst e; exact ⟨_, _, hto⟩
        · exact ⟨[], w, .nil (by show upd st.by_ _ _ w = none; rw [upd_ne e]; exact h1)⟩
      | @cons w t l r h1 h2 ih =>
        by_cases e : w = A.to s
        · subst e; exact ⟨_, _, hto⟩
        · obtain ⟨e1, _⟩ := h.edge w hw t h1
          obtain ⟨l', r', h3⟩ := ih (hL t e1).1
          exact ⟨t :: l', r', .cons (by show upd st.by_ _ _ w = some t; rw [upd_ne e]; exact h1) h3⟩
    exact key hv hch
/-- in the program's terms: the state behind k rounds -/
theorem reach_inv {N : Nat} {L : List α} {p first : Nat → Int} (hL : A.In N L) (hp : A.Pot L p) (hf : ∀ v, v < N → first v ≤ far) {st : Lb α} (h0 : LInv A far N L p first st) (h1 : ∀ v, v < N → st.at_ v ≤ far) : ∀ k, LInv A far N L p first (A.reach far L st k) ∧ ∀ v, v < N → (A.reach far L st k).at_ v ≤ far
  | 0 => ⟨h0, h1⟩
  | k + 1 => by
    obtain ⟨h2, h3⟩ := reach_inv hL hp hf h0 h1 k
    exact fold_inv (A := A) (far := far) (I := fun t => LInv A far N L p first t ∧ ∀ v, v < N → t.at_ v ≤ far) (fun t s hs hI => ⟨hI.1.relax hL hp hI.2 hs, fun v hv => Int.le_trans (relax_le t s v) (hI.2 v hv)⟩) ⟨h2.last (-1), h3⟩
/-- what the state is when nothing changes any more -/
structure LEnd (A : Arcs α) (far : Int) (N : Nat) (L : List α) (p first : Nat → Int) (at_ : Nat → Int) (b : Nat → Option α) : Prop where
  sat : A.Sat far L at_
  edge : ∀ v, v < N → ∀ s, b v = some s → s ∈ L ∧ A.to s = v ∧ at_ (A.fr s) < far ∧ at_ v < far ∧ at_ (A.fr s) + A.ln s = at_ v
  root : ∀ v, v < N → b v = none → at_ v = first v
  ends : ∀ v, v < N → ∃ l r, Chn A b v l r
  le : ∀ v, v < N → at_ v ≤ first v
theorem reach_end {N : Nat} {L : List α} {p first : Nat → Int} (hL : A.In N L) (hp : A.Pot L p) (hf : ∀ v, v < N → first v ≤ far) (k : Int) :
    LEnd A far N L p first (A.reach far L ⟨first, fun _ => none, k⟩ N).at_ (A.reach far L ⟨first, fun _ => none, k⟩ N).by_ := by
  obtain ⟨h1, h2⟩ := reach_inv (A := A) (far := far) (p := p) (first := first) hL hp hf (st := ⟨first, fun _ => none, k⟩) (linv_start.last k) hf N
  have h3 := reach_sat' (far := far) hL hp ⟨first, fun _ => none, k⟩
  refine ⟨h3, fun v hv s hs => ?_, h1.root, h1.ends, fun v hv => reach_le _ _ v N⟩
  obtain ⟨e1, e2, e3, e4, e5⟩ := h1.edge v hv s hs
  have := h3 s e1 e3
  rw [e2] at this
  exact ⟨e1, e2, e3, e4, by omega⟩
theorem LEnd.tele {N : Nat} {L : List α} {p first at_ : Nat → Int} {b : Nat → Option α} (h : LEnd A far N L p first at_ b) (hL : A.In N L) {v : Nat} (hv : v < N) {l : List α} {r : Nat} (hc : Chn A b v l r) : at_ v = at_ r + sumLn A l ∧ r < N ∧ (∀ s ∈ l, s ∈ L) ∧ at_ r = first r ∧ (at_ v < far → at_ r < far) := by
  induction hc with
  | nil h1 => exact ⟨by simp [sumLn], hv, fun s hs => by simp at hs, h.root _ hv h1, fun h => h⟩
  | @cons v s l r h1 h2 ih =>
    obtain ⟨e1, e2, e3, e4, e5⟩ := h.edge v hv s h1
    obtain ⟨i1, i2, i3, i4, i5⟩ := ih (hL s e1).1
    refine ⟨by simp only [sumLn]; omega, i2, fun t ht => ?_, i4, fun _ => i5 e3⟩
    rcases List.mem_cons.1 ht with rfl | ht
    · exact e1
    · exact i3 t ht
theorem Chn.short {b : Nat → Option α} {N : Nat} {L : List α} (hL : A.In N L) {v : Nat} {l : List α} {r : Nat} (h : Chn A b v l r) (hv : v < N) (hl : ∀ s ∈ l, s ∈ L) : l.length + 1 ≤ N := by
  have := range_len (N := N) h.nodup (fun x hx => by
    rcases List.mem_cons.1 hx with rfl | hx
    · exact hv
    · obtain ⟨s, hs, rfl⟩ := List.mem_map.1 hx
      exact (hL s (hl s hs)).1)
  simpa [nodesOf] using this
theorem sumLn_bd {l : List α} {K : Int} (h : ∀ s ∈ l, -K ≤ A.ln s ∧ A.ln s ≤ K) : -(l.length * K) ≤ sumLn A l ∧ sumLn A l ≤ l.length * K := by
  induction l with
  | nil => simp [sumLn]
  | cons s l ih =>
    have := ih (fun t ht => h t (List.mem_cons_of_mem _ ht))
    have h1 := h s List.mem_cons_self
    simp only [sumLn, List.length_cons, Int.natCast_add, Int.add_mul]
    simp only [Int.cast_ofNat_Int, Int.one_mul]
    omega
theorem LEnd.down {N : Nat} {L : List α} {p first at_ : Nat → Int} {b : Nat → Option α} (h : LEnd A far N L p first at_ b) (hL : A.In N L) (hp : A.Pot L p) {v : Nat} (hv : v < N) {l : List α} {r : Nat} (hc : Chn A b v l r) : ∀ w ∈ v :: nodesOf A l, at_ w - p w ≤ at_ v - p v ∧ (at_ v < far → at_ w < far) := by
  induction hc with
  | nil _ => intro w hw; simp [nodesOf] at hw; subst hw; exact ⟨Int.le_refl _, fun h => h⟩
  | @cons v s l r h1 h2 ih =>
    obtain ⟨e1, e2, e3, e4, e5⟩ := h.edge v hv s h1
    have hs := hL s e1
    intro w hw
    rcases List.mem_cons.1 hw with rfl | hw
    · exact ⟨Int.le_refl _, fun h => h⟩
    · have := ih hs.1 w (by simpa [nodesOf] using hw)
      have h3 := hp s e1
      rw [e2] at h3
      exact ⟨by omega, fun _ => this.2 e3⟩
/-- no label is further from its beginning than so many arcs are long -/
theorem LEnd.bd {N : Nat} {L : List α} {p first at_ : Nat → Int} {b : Nat → Option α} (h : LEnd A far N L p first at_ b) (hL : A.In N L) {K : Int} (hK : 0 ≤ K) (hl : ∀ s ∈ L, -K ≤ A.ln s ∧ A.ln s ≤ K) {v : Nat} (hv : v < N) : ∃ r, r < N ∧ b r = none ∧ at_ r = first r ∧ (at_ v < far → first r < far) ∧ first r - (N - 1) * K ≤ at_ v ∧ at_ v ≤ first r + (N - 1) * K := by
  obtain ⟨l, r, hc⟩ := h.ends v hv
  obtain ⟨h1, h2, h3, h4, h9⟩ := h.tele hL hv hc
  have h5 := hc.short hL hv h3
  have h6 := sumLn_bd (A := A) (l := l) (fun s hs => hl s (h3 s hs))
  have h7 : (l.length : Int) * K ≤ (N - 1) * K := Int.mul_le_mul_of_nonneg_right (by omega) hK
  exact ⟨r, h2, hc.root, h4, fun hh => by have := h9 hh; omega, by omega, by omega⟩
/-- prices made of labels: no node further than the cap -/
def capP (far : Int) (p at_ : Nat → Int) (c : Int) (v : Nat) : Int := if at_ v < far ∧ at_ v - p v < c then at_ v else c + p v
theorem capP_pot {L : List α} {p at_ : Nat → Int} {c : Int} (h : A.Sat far L at_) (hp : A.Pot L p) (hb : ∀ s ∈ L, at_ (A.fr s) < far → at_ (A.to s) < far) : A.Pot L (capP far p at_ c) := by
  intro s hs
  have h1 := hp s hs
  unfold capP
  by_cases h2 : at_ (A.fr s) < far ∧ at_ (A.fr s) - p (A.fr s) < c
  · rw [if_pos h2]
    have h3 := h s hs h2.1
    split
    · omega
    · rename_i h4
      have h5 := hb s hs h2.1
      have : ¬ at_ (A.to s) - p (A.to s) < c := fun h6 => h4 ⟨h5, h6⟩
      omega
  · rw [if_neg h2]
    split <;> omega
/-- along the chain to a node these prices are the labels, and each arc is tight -/
theorem capP_tight {N : Nat} {L : List α} {p first at_ : Nat → Int} {b : Nat → Option α} (h : LEnd A far N L p first at_ b) (hL : A.In N L) (hp : A.Pot L p) {v : Nat} (hv : v < N) (hf : at_ v < far) {l : List α} {r : Nat} (hc : Chn A b v l r) :
    ∀ s ∈ l, capP far p at_ (at_ v - p v) (A.to s) = A.ln s + capP far p at_ (at_ v - p v) (A.fr s) := by
  have hd := h.down hL hp hv hc
  have same : ∀ w ∈ v :: nodesOf A l, capP far p at_ (at_ v - p v) w = at_ w := fun w hw => by
    obtain ⟨h1, h2⟩ := hd w hw
    have h3 := h2 hf
    unfold capP
    split <;> omega
  clear hd
  have key : ∀ {w l r'}, w < N → Chn A b w l r' → (∀ x ∈ w :: nodesOf A l, capP far p at_ (at_ v - p v) x = at_ x) → ∀ s ∈ l, capP far p at_ (at_ v - p v) (A.to s) = A.ln s + capP far p at_ (at_ v - p v) (A.fr s) := by
    intro w l r' hw hch
    induction hch with
    | nil _ => intro _ s hs; simp at hs
    | @cons w t l r' h1 h2 ih =>
      intro hsame s hs
      obtain ⟨e1, e2, e3, e4, e5⟩ := h.edge w hw t h1
      rcases List.mem_cons.1 hs with rfl | hs
      · rw [e2, hsame w List.mem_cons_self, hsame (A.fr s) (List.mem_cons_of_mem _ (by simp [nodesOf]))]; omega
      · exact ih (hL t e1).1 (fun x hx => hsame x (List.mem_cons_of_mem _ (by simpa [nodesOf] using hx))) s hs
  exact key hv hc same
end
end Go.Proofs.Ytbejgbflipoboaa
