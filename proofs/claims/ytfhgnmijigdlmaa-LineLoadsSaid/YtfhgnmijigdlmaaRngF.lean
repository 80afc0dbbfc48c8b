/- A range over a function whose iterator has boxes of its own that must stay through the rounds: what lies from the loop's start on is kept by each round. After gen/Rng. -/
import Derived.Test.YtfhgnmijigdlmaaRng
namespace Go.Proofs.Ytfhgnmijigdlmaa
open Go.RowKit

/-- what lies from base on lies as it lay -/
def FarK (base : Nat) (A B : World) : Prop := A.heap.size ≤ B.heap.size ∧ ∀ i, base ≤ i → i < A.heap.size → B.heap[i]? = A.heap[i]?
theorem FarK.ext {A B : World} (h : Ext A B) (base : Nat) : FarK base A B := ⟨h.size, fun i _ hi => h.block i hi⟩
/-- .. with a kept box of its own: the contract of an iterator with N rounds, round k handed 'encs k'; 'Kc': what it needs of memory between the rounds. -/
def SeqF (P : Program) (g : Nat) (lb : Array Value) (encs : Nat → Array Value) (N : Nat) (Kc : World → Prop) : Prop :=
  ∀ (l : Nat) (J Jx : Nat → World → Prop) (W : World), (∀ k A B, J k A → A.grownBy B none → J k B) → (∀ k A B, Jx k A → A.grownBy B none → Jx k B) → (∀ k A, J k A → Kc A) →
    (∀ k A, J k A → k < N → YieldAt Fence.wide 0 P l (encs k) A fun e B => (e = .returned (.bool true) ∧ J (k + 1) B ∧ FarK W.heap.size A B) ∨ (e = .returned (.bool false) ∧ Jx (k + 1) B)) →
    J 0 W → CallsIn Fence.wide 0 P g (#[.func (.yield l) #[] #[]] ++ lb) W fun e B => (∃ v, e = .returned v) ∧ (J N B ∨ ∃ k, k ≤ N ∧ Jx k B)

/-- How a round's body may be left. -/
def postF (I : Nat → World → Prop) (Ix : Code → Nat → World → Prop) (base : Nat) (k : Nat) (W : World) : Exit → Act → World → Prop
  | .normal, _, W' => KeepsOthers W W' ∧ I k W' ∧ FarK base W W'
  | .ret, _, W' => KeepsOthers W W' ∧ Ix .ret k W'
  | .exit id, _, W' => KeepsOthers W W' ∧ Ix (.exit id) k W'
  | .goto t, _, W' => KeepsOthers W W' ∧ Ix (.goto t) k W'
  | .panic _, _, _ => False
  | .outgrown, _, _ => False

theorem wp_rangeF {P : Program} {g : Operand} {ps : Array Tmp} {assign body : Code} {Q : Exit → Act → World → Prop} {a : Act} {w : World}
    {gf : Nat} {lb : Array Value} (hg : a.eval g = .func (.func gf) #[] lb) (eg : ∀ args w, (callFunc gf args).run P w = .ok (.enter gf args) w)
    {encs : Nat → Array Value} {N : Nat} {Kc : World → Prop} (hseq : SeqF P gf lb encs N Kc) (hps : ∀ k, (encs k).size = ps.size)
    (I : Nat → World → Prop) (Ix : Code → Nat → World → Prop) (hI : OwnFrom w.heap.size I) (hIx : ∀ c, OwnFrom w.heap.size (Ix c)) (hKc : ∀ k W, I k W → Kc W) (h0 : I 0 w) (a₁ : Nat → Act)
    (hassign : ∀ (l k : Nat) (W : World) (K : Act → World → Prop), K (a₁ k) W →
      assign.wpIn (Fence.wide.inRound l) 0 P (Exit.then K (fun _ _ _ => False)) { tmps := (ps.zip (encs k)).foldl (fun t (p, v) => t.setIfInBounds p v) a.tmps, defers := [] } W)
    (hbody : ∀ (l k : Nat) (W : World), I k W → k < N → body.wpIn (Fence.wide.inRound l) 0 P (postF I Ix w.heap.size (k + 1) W) (a₁ k) W)
    (hdone : ∀ (D : Nat) (W : World), w.heap.size ≤ D → I N W → W.heap[D]? = some (.deferred (some [])) → Q .normal { a with defers := { target := .collected D, args := #[] } :: a.defers } W)
    (hstop : ∀ (D : Nat) (c : Code) (k : Nat) (W : World), w.heap.size ≤ D → k ≤ N → Ix c k W → W.heap[D]? = some (.deferred (some [])) → c.wp P Q { a with defers := { target := .collected D, args := #[] } :: a.defers } W) :
    (Code.rangeFunc g ps assign body).wp P Q a w := by
  refine (wpIn_wide (n := 0)).1 (wpIn_rangeFunc ?_)
  intro fn hfn
  -- the two new objects: the block of deferred calls D, the record L
  let rec' : LoopState → Option Code → Loop := fun st pe => { state := st, pending := pe, fn, tmps := a.tmps, params := ps, assign, body, defers := w.heap.size }
  obtain ⟨W1, hW1⟩ : ∃ W1, (w.alloc (.deferred (some []))).alloc (.loop (rec' .ready none)) = W1 := ⟨_, rfl⟩
  have hL1 : W1.heap[w.heap.size + 1]? = some (.loop (rec' .ready none)) := by
    rw [← hW1]
    have := World.alloc_heap_new (w.alloc (.deferred (some []))) (.loop (rec' .ready none))
    rwa [World.size_alloc] at this
  have hD1 : W1.heap[w.heap.size]? = some (.deferred (some [])) := by
    rw [← hW1]; exact (Below.heap_alloc _ _ _ (by simp)).trans (World.alloc_heap_new w _)
  have hI1 : I 0 W1 := by rw [← hW1]; exact hI.alloc _ (hI.alloc _ h0)
  refine ⟨w.heap.size + 1, [{ target := .collected w.heap.size, args := #[] }], W1, { target := .fn (.func gf) lb, args := #[.func (.yield (w.heap.size + 1)) #[] #[]] }, W1, gf,
    #[.func (.yield (w.heap.size + 1)) #[] #[]] ++ lb, W1, ?_, ?_, fun _ _ => trivial, ?_, (fun h => by cases h), ?_⟩
  · rw [← hW1]; exact run_enterLoop_outer _ _ _ _ _
  · simp only [resolve, hg]; simp [go_sem]
  · simp [invoke, go_sem, eg]
  -- what is kept through the rounds, the record and the block beside it
  let Rec : LoopState → Option Code → World → Prop := fun st pe W => W.heap[w.heap.size + 1]? = some (.loop (rec' st pe)) ∧ W.heap[w.heap.size]? = some (.deferred (some []))
  have hgrow : ∀ {st pe A B}, Rec st pe A → A.grownBy B none → Rec st pe B := fun {st pe A B} h hAB =>
    ⟨(hAB.block _ (Array.getElem?_eq_some_iff.1 h.1).1 (by simp)).trans h.1, (hAB.block _ (Array.getElem?_eq_some_iff.1 h.2).1 (by simp)).trans h.2⟩
  have hput : ∀ {st pe A} (st' : LoopState) (pe' : Option Code), Rec st pe A → Rec st' pe' (A.putObj (w.heap.size + 1) (.loop (rec' st' pe'))) := fun {st pe A} st' pe' h =>
    ⟨World.putObj_heap_same (Array.getElem?_eq_some_iff.1 h.1).1, (World.putObj_heap_other (by omega)).trans h.2⟩
  have hIput : ∀ {β : Type} {K : β → World → Prop} {s : β} {st pe A} (o : Obj), OwnFrom w.heap.size K → K s A → Rec st pe A → K s (A.putObj (w.heap.size + 1) o) := fun o hK hs h =>
    hK.putObj _ hs (by omega) h.1 rfl
  refine (hseq (w.heap.size + 1) (fun k W => I k W ∧ Rec .ready none W) (fun k W => ∃ c, Ix c k W ∧ Rec .done (some c) W) W1
    (fun k A B h hAB => ⟨hI k A B none h.1 hAB (fun r e => by cases e), hgrow h.2 hAB⟩)
    (fun k A B h hAB => by obtain ⟨c, h1, h2⟩ := h; exact ⟨c, hIx c k A B none h1 hAB (fun r e => by cases e), hgrow h2 hAB⟩)
    (fun k A h => hKc k A h.1) ?_ ⟨hI1, hL1, hD1⟩).mono ?_
  · -- one round
    rintro k W ⟨hi, hr⟩ hk
    refine ⟨fn, _, assign, body, run_yield (args := encs k) hr.1 (by simp [rec', hps]), roundIn_of_wpIn hfn (hassign _ k W _ ⟨_, run_beginRound hr.1 rfl, ?_⟩)⟩
    have hr2 := hput .busy none hr
    have hi2 : I k (W.putObj (w.heap.size + 1) (.loop (rec' .busy none))) := hIput _ hI hi hr
    refine wpIn_mono (hbody _ k _ hi2 hk) ?_
    have fin : ∀ (jump : Option Code) (W3 : World), KeepsOthers (W.putObj (w.heap.size + 1) (.loop (rec' .busy none))) W3 →
        Rec .busy none W3 ∧ (Instr.endRound (w.heap.size + 1) jump).run P W3 = .ok (.bool jump.isNone) (W3.putObj (w.heap.size + 1) (.loop (rec' (if jump.isNone then .ready else .done) jump))) := fun jump W3 hk3 => by
      have h3 : Rec .busy none W3 := ⟨hk3.same _ _ hr2.1 rfl, hk3.same _ _ hr2.2 rfl⟩
      exact ⟨h3, run_endRound jump h3.1⟩
    rintro e a3 W3 hp
    cases e with
    | normal =>
      obtain ⟨hk3, hi3, hf3⟩ := hp
      obtain ⟨h3, he⟩ := fin none W3 hk3
      refine ⟨_, _, he, .inl ⟨rfl, ⟨hIput _ hI hi3 h3, hput _ _ h3⟩, ?_⟩⟩
      have hs1 : W1.heap.size = w.heap.size + 2 := by rw [← hW1]; simp
      have hs2 : ∀ (X : World) (i : Nat) (o : Obj), (X.putObj i o).heap.size = X.heap.size := fun X i o => by simp [World.putObj]
      refine ⟨by rw [hs2]; have := hf3.1; rw [hs2] at this; exact this, fun i hi hlt => ?_⟩
      rw [World.putObj_heap_other (by omega), hf3.2 i (by omega) (by rw [hs2]; exact hlt), World.putObj_heap_other (by omega)]
    | ret =>
      obtain ⟨hk3, hi3⟩ := hp
      obtain ⟨h3, he⟩ := fin (some .ret) W3 hk3
      exact ⟨_, _, he, .inr ⟨rfl, .ret, hIput _ (hIx _) hi3 h3, hput _ _ h3⟩⟩
    | exit id =>
      obtain ⟨hk3, hi3⟩ := hp
      obtain ⟨h3, he⟩ := fin (some (.exit id)) W3 hk3
      exact ⟨_, _, he, .inr ⟨rfl, .exit id, hIput _ (hIx _) hi3 h3, hput _ _ h3⟩⟩
    | goto t =>
      obtain ⟨hk3, hi3⟩ := hp
      obtain ⟨h3, he⟩ := fin (some (.goto t)) W3 hk3
      exact ⟨_, _, he, .inr ⟨rfl, .goto t, hIput _ (hIx _) hi3 h3, hput _ _ h3⟩⟩
    | panic ch => exact hp.elim
    | outgrown => exact hp.elim
  · -- behind the iterator
    rintro e W2 ⟨⟨v, rfl⟩, (⟨hi, hr⟩ | ⟨k, hk, c, hi, hr⟩)⟩
    · exact ⟨none, _, run_endLoop hr.1 (by simp [rec']), hdone _ _ (Nat.le_refl _) (hIput _ hI hi hr) ((World.putObj_heap_other (by omega)).trans hr.2)⟩
    · exact ⟨some c, _, run_endLoop hr.1 (by simp [rec']), wpIn_wide.2 (hstop _ c k _ (Nat.le_refl _) hk (hIput _ (hIx c) hi hr) ((World.putObj_heap_other (by omega)).trans hr.2))⟩

end Go.Proofs.Ytfhgnmijigdlmaa
