/- A range over a function whose rounds are known ahead by number (round k is handed the values encs k, there are N rounds): the contract of such an iterator, and one law for the statement. Over any program. And: a region that draws its order, within a round. -/
import Derived.OrdersIn
import Derived.RangeFuncBox
import Derived.RangeFuncLeaves
import Derived.RangeFuncCalls
import Derived.RangeFuncNested
import Derived.Test.YtfhgnmijigdlmaaReg
namespace Go.Proofs.Ytfhgnmijigdlmaa
open Go.RowKit

/-- The contract of an iterator with N rounds, round k handed 'encs k'; 'Kc': what it needs of memory between the rounds. -/
def SeqN (P : Program) (g : Nat) (lb : Array Value) (encs : Nat → Array Value) (N : Nat) (Kc : World → Prop) : Prop :=
  ∀ (l : Nat) (J Jx : Nat → World → Prop) (W : World), (∀ k A B, J k A → A.grownBy B none → J k B) → (∀ k A B, Jx k A → A.grownBy B none → Jx k B) → (∀ k A, J k A → Kc A) →
    (∀ k A, J k A → k < N → YieldAt Fence.wide 0 P l (encs k) A fun e B => (e = .returned (.bool true) ∧ J (k + 1) B) ∨ (e = .returned (.bool false) ∧ Jx (k + 1) B)) →
    J 0 W → CallsIn Fence.wide 0 P g (#[.func (.yield l) #[] #[]] ++ lb) W fun e B => (∃ v, e = .returned v) ∧ (J N B ∨ ∃ k, k ≤ N ∧ Jx k B)

/-- How a round's body may be left. -/
def postN (I : Nat → World → Prop) (Ix : Code → Nat → World → Prop) (k : Nat) (W : World) : Exit → Act → World → Prop
  | .normal, _, W' => KeepsOthers W W' ∧ I k W'
  | .ret, _, W' => KeepsOthers W W' ∧ Ix .ret k W'
  | .exit id, _, W' => KeepsOthers W W' ∧ Ix (.exit id) k W'
  | .goto t, _, W' => KeepsOthers W W' ∧ Ix (.goto t) k W'
  | .panic _, _, _ => False
  | .outgrown, _, _ => False

theorem wide_depth : Fence.wide.depth = none := rfl
theorem ext_keeps {W W' : World} (h : Ext W W') : KeepsOthers W W' :=
  ⟨h.size, fun k _ hk _ => (h.block k (Array.getElem?_eq_some_iff.1 hk).1).trans hk⟩

theorem wp_range {P : Program} {g : Operand} {ps : Array Tmp} {assign body : Code} {Q : Exit → Act → World → Prop} {a : Act} {w : World}
    {gf : Nat} {lb : Array Value} (hg : a.eval g = .func (.func gf) #[] lb) (eg : ∀ args w, (callFunc gf args).run P w = .ok (.enter gf args) w)
    {encs : Nat → Array Value} {N : Nat} {Kc : World → Prop} (hseq : SeqN P gf lb encs N Kc) (hps : ∀ k, (encs k).size = ps.size)
    (I : Nat → World → Prop) (Ix : Code → Nat → World → Prop) (hI : OwnFrom w.heap.size I) (hIx : ∀ c, OwnFrom w.heap.size (Ix c)) (hKc : ∀ k W, I k W → Kc W) (h0 : I 0 w) (a₁ : Nat → Act)
    (hassign : ∀ (l k : Nat) (W : World) (K : Act → World → Prop), K (a₁ k) W →
      assign.wpIn (Fence.wide.inRound l) 0 P (Exit.then K (fun _ _ _ => False)) { tmps := (ps.zip (encs k)).foldl (fun t (p, v) => t.setIfInBounds p v) a.tmps, defers := [] } W)
    (hbody : ∀ (l k : Nat) (W : World), I k W → k < N → body.wpIn (Fence.wide.inRound l) 0 P (postN I Ix (k + 1) W) (a₁ k) W)
    (hdone : ∀ (D : Nat) (W : World), w.heap.size ≤ D → I N W → W.heap[D]? = some (.deferred (some [])) → Q .normal { a with defers := { target := .collected D, args := #[] } :: a.defers } W)
    (hstop : ∀ (D : Nat) (c : Code) (k : Nat) (W : World), w.heap.size ≤ D → k ≤ N → Ix c k W → W.heap[D]? = some (.deferred (some [])) → c.wp P Q { a with defers := { target := .collected D, args := #[] } :: a.defers } W) :
    (Code.rangeFunc g ps assign body).wp P Q a w := by
  refine (wpIn_wide (n := 0)).1 (wpIn_rangeFunc ?_)
  intro fn hfn
  -- the two new objects: the block of deferred calls D, the record L
  let rec' : LoopState → Option Code → Loop := fun st pe => { state := st, pending := pe, fn, tmps := a.tmps, params := ps, assign, body, defers := w.heap.size }
  obtain ⟨W1, hW1⟩ : ∃ W1, (w.alloc (.deferred (some []))).alloc (.loop (rec' .ready none)) = W1 := ⟨_, rfl⟩
  have hL1 : W1.heap[w.heap.size + 1]? = some (.loop (rec' .ready none)) := by
    rw [← hW1]
    have := World.alloc_heap_new (w.alloc (.deferred (some []))) (.loop (rec' .ready none))
    rwa [World.size_alloc] at this
  have hD1 : W1.heap[w.heap.size]? = some (.deferred (some [])) := by
    rw [← hW1]; exact (Below.heap_alloc _ _ _ (by simp)).trans (World.alloc_heap_new w _)
  have hI1 : I 0 W1 := by rw [← hW1]; exact hI.alloc _ (hI.alloc _ h0)
  refine ⟨w.heap.size + 1, [{ target := .collected w.heap.size, args := #[] }], W1, { target := .fn (.func gf) lb, args := #[.func (.yield (w.heap.size + 1)) #[] #[]] }, W1, gf,
    #[.func (.yield (w.heap.size + 1)) #[] #[]] ++ lb, W1, ?_, ?_, fun _ _ => trivial, ?_, (fun h => by cases h), ?_⟩
  · rw [← hW1]; exact run_enterLoop_outer _ _ _ _ _
  · simp only [resolve, hg]; simp [go_sem]
  · simp [invoke, go_sem, eg]
  -- what is kept through the rounds, the record and the block beside it
  let Rec : LoopState → Option Code → World → Prop := fun st pe W => W.heap[w.heap.size + 1]? = some (.loop (rec' st pe)) ∧ W.heap[w.heap.size]? = some (.deferred (some []))
  have hgrow : ∀ {st pe A B}, Rec st pe A → A.grownBy B none → Rec st pe B := fun {st pe A B} h hAB =>
    ⟨(hAB.block _ (Array.getElem?_eq_some_iff.1 h.1).1 (by simp)).trans h.1, (hAB.block _ (Array.getElem?_eq_some_iff.1 h.2).1 (by simp)).trans h.2⟩
  have hput : ∀ {st pe A} (st' : LoopState) (pe' : Option Code), Rec st pe A → Rec st' pe' (A.putObj (w.heap.size + 1) (.loop (rec' st' pe'))) := fun {st pe A} st' pe' h =>
    ⟨World.putObj_heap_same (Array.getElem?_eq_some_iff.1 h.1).1, (World.putObj_heap_other (by omega)).trans h.2⟩
  have hIput : ∀ {β : Type} {K : β → World → Prop} {s : β} {st pe A} (o : Obj), OwnFrom w.heap.size K → K s A → Rec st pe A → K s (A.putObj (w.heap.size + 1) o) := fun o hK hs h =>
    hK.putObj _ hs (by omega) h.1 rfl
  refine (hseq (w.heap.size + 1) (fun k W => I k W ∧ Rec .ready none W) (fun k W => ∃ c, Ix c k W ∧ Rec .done (some c) W) W1
    (fun k A B h hAB => ⟨hI k A B none h.1 hAB (fun r e => by cases e), hgrow h.2 hAB⟩)
    (fun k A B h hAB => by obtain ⟨c, h1, h2⟩ := h; exact ⟨c, hIx c k A B none h1 hAB (fun r e => by cases e), hgrow h2 hAB⟩)
    (fun k A h => hKc k A h.1) ?_ ⟨hI1, hL1, hD1⟩).mono ?_
  · -- one round
    rintro k W ⟨hi, hr⟩ hk
    refine ⟨fn, _, assign, body, run_yield (args := encs k) hr.1 (by simp [rec', hps]), roundIn_of_wpIn hfn (hassign _ k W _ ⟨_, run_beginRound hr.1 rfl, ?_⟩)⟩
    have hr2 := hput .busy none hr
    have hi2 : I k (W.putObj (w.heap.size + 1) (.loop (rec' .busy none))) := hIput _ hI hi hr
    refine wpIn_mono (hbody _ k _ hi2 hk) ?_
    have fin : ∀ (jump : Option Code) (W3 : World), KeepsOthers (W.putObj (w.heap.size + 1) (.loop (rec' .busy none))) W3 →
        Rec .busy none W3 ∧ (Instr.endRound (w.heap.size + 1) jump).run P W3 = .ok (.bool jump.isNone) (W3.putObj (w.heap.size + 1) (.loop (rec' (if jump.isNone then .ready else .done) jump))) := fun jump W3 hk3 => by
      have h3 : Rec .busy none W3 := ⟨hk3.same _ _ hr2.1 rfl, hk3.same _ _ hr2.2 rfl⟩
      exact ⟨h3, run_endRound jump h3.1⟩
    rintro e a3 W3 hp
    cases e with
    | normal =>
      obtain ⟨hk3, hi3⟩ := hp
      obtain ⟨h3, he⟩ := fin none W3 hk3
      exact ⟨_, _, he, .inl ⟨rfl, hIput _ hI hi3 h3, hput _ _ h3⟩⟩
    | ret =>
      obtain ⟨hk3, hi3⟩ := hp
      obtain ⟨h3, he⟩ := fin (some .ret) W3 hk3
      exact ⟨_, _, he, .inr ⟨rfl, .ret, hIput _ (hIx _) hi3 h3, hput _ _ h3⟩⟩
    | exit id =>
      obtain ⟨hk3, hi3⟩ := hp
      obtain ⟨h3, he⟩ := fin (some (.exit id)) W3 hk3
      exact ⟨_, _, he, .inr ⟨rfl, .exit id, hIput _ (hIx _) hi3 h3, hput _ _ h3⟩⟩
    | goto t =>
      obtain ⟨hk3, hi3⟩ := hp
      obtain ⟨h3, he⟩ := fin (some (.goto t)) W3 hk3
      exact ⟨_, _, he, .inr ⟨rfl, .goto t, hIput _ (hIx _) hi3 h3, hput _ _ h3⟩⟩
    | panic ch => exact hp.elim
    | outgrown => exact hp.elim
  · -- behind the iterator
    rintro e W2 ⟨⟨v, rfl⟩, (⟨hi, hr⟩ | ⟨k, hk, c, hi, hr⟩)⟩
    · exact ⟨none, _, run_endLoop hr.1 (by simp [rec']), hdone _ _ (Nat.le_refl _) (hIput _ hI hi hr) ((World.putObj_heap_other (by omega)).trans hr.2)⟩
    · exact ⟨some c, _, run_endLoop hr.1 (by simp [rec']), wpIn_wide.2 (hstop _ c k _ (Nat.le_refl _) hk (hIput _ (hIx c) hi hr) ((World.putObj_heap_other (by omega)).trans hr.2))⟩

/-! ### What an invariant says of boxes, rows, grown worlds abides the law's own book-keeping -/
section
variable {X Y : World} {row : Option Nat} {B0 : Nat}
theorem box_keep {B : Nat} {t : TypeId} {v : Value} (h : Boxed X B t v) (hg : X.grownBy Y row) (hr : ∀ r, row = some r → B0 ≤ r ∧ ∃ o : Obj, X.heap[r]? = some o ∧ o.isCells = false) : Boxed Y B t v :=
  h.kept hg fun e => by
    obtain ⟨_, o, ho, hc⟩ := hr B e.symm
    rw [show X.heap[B]? = _ from h] at ho; cases ho; cases hc
theorem row_keep {base : Nat} {e : TypeId} {size : Nat} {v : Value} {k : Nat} {xs : List Value} (h : X.ownsRow base e size v k xs) (hg : X.grownBy Y row) (hr : ∀ r, row = some r → B0 ≤ r ∧ ∃ o : Obj, X.heap[r]? = some o ∧ o.isCells = false) : Y.ownsRow base e size v k xs := by
  refine h.kept hg ?_
  rcases h.2 with ⟨rfl, _⟩ | ⟨g, cap, cur, rfl, _, hgb, _⟩
  · exact .inl rfl
  · refine .inr fun e' => ?_
    obtain ⟨_, o, ho, hc⟩ := hr g (by simpa [Value.ownBlock] using e'.symm)
    rw [hgb] at ho; cases ho; cases hc
theorem ext_keep {w : World} (h : Ext w X) (hg : X.grownBy Y row) (hB : w.heap.size ≤ B0) (hr : ∀ r, row = some r → B0 ≤ r ∧ ∃ o : Obj, X.heap[r]? = some o ∧ o.isCells = false) : Ext w Y :=
  Below.grown h hg h.size fun k e => Nat.le_trans hB (hr k e).1
theorem ext_putObj {w : World} (h : Ext w X) {l : Nat} (hl : w.heap.size ≤ l) (o : Obj) : Ext w (X.putObj l o) :=
  Below.grown h (grownBy_putObj' X l o) h.size fun k e => by cases e; exact hl
theorem box_putObj {B : Nat} {t : TypeId} {v : Value} (h : Boxed X B t v) {l : Nat} (hl : B ≠ l) (o : Obj) : Boxed (X.putObj l o) B t v :=
  h.kept (grownBy_putObj' X l o) (by simpa using hl)
theorem box_ext {B : Nat} {t : TypeId} {v : Value} (h : Boxed X B t v) (hE : Ext X Y) : Boxed Y B t v := (hE.block B h.lt).trans h
theorem row_ext {base : Nat} {e : TypeId} {size : Nat} {v : Value} {k : Nat} {xs : List Value} (h : X.ownsRow base e size v k xs) (hE : Ext X Y) : Y.ownsRow base e size v k xs :=
  h.kept (row := none) ⟨hE.os, hE.tape, hE.output, hE.size, fun i hi _ => hE.block i hi⟩ (by cases hv : v.ownBlock <;> simp)
theorem box_set {B B' : Nat} {t : TypeId} {v : Value} (h : Boxed X B t v) (hne : B ≠ B') (u : Value) : Boxed (X.setCell ⟨B', 0, none⟩ u) B t v := (Below.heap_setCell X ⟨B', 0, none⟩ u B hne).trans h
end

section
variable {X Y : World} {base : Nat} {e : TypeId} {size : Nat} {v : Value} {k : Nat} {xs : List Value}
theorem row_base (h : X.ownsRow base e size v k xs) {base' : Nat} (hb : base' ≤ base) : X.ownsRow base' e size v k xs := by
  refine ⟨h.1, ?_⟩
  rcases h.2 with h2 | ⟨g, cap, cur, h1, h2, h3⟩
  · exact .inl h2
  · exact .inr ⟨g, cap, cur, h1, Nat.le_trans hb h2, h3⟩
theorem row_cell {g n' cap : Nat} (h : X.ownsRow base e 1 (.slice (some ⟨g, 0, none⟩) n' cap) k xs) {j : Nat} {u : Value} (hu : xs[j]? = some u) : X.cell? ⟨g, j, none⟩ = some u := by
  have hc := h.cells (g := g) rfl j u hu
  have e : Addr.add ⟨g, 0, none⟩ j = ⟨g, j, none⟩ := by
    unfold Addr.add
    split
    · rename_i h; simp_all
    · simp
  rwa [e] at hc
theorem row_far (h : X.ownsRow base e size v k xs) {B : Nat} (hB : B < base) : some B ≠ v.ownBlock := by
  rcases h.2 with ⟨rfl, _⟩ | ⟨g, cap, cur, rfl, hb, _⟩
  · simp [Value.ownBlock]
  · intro e'
    obtain rfl : B = g := by simpa [Value.ownBlock] using e'
    omega
theorem ext_append {w : World} {tmp : Obj} (h : Ext w X) (hrow : X.ownsRow base e size v k xs) (hb : w.heap.size ≤ base) (hgrow : (X.alloc tmp).grownBy Y v.ownBlock) : Ext w Y :=
  (h.alloc h.size tmp).grown hgrow (by have := h.size; simp; omega) fun j ej => by
    rcases hrow.2 with ⟨rfl, _⟩ | ⟨g, cap, cur, rfl, hg, _, _⟩
    · simp [Value.ownBlock] at ej
    · obtain rfl : g = j := by simpa [Value.ownBlock] using ej
      exact Nat.le_trans hb hg
/-- a box below the row's base, other than the box that holds the row, lies as it lay behind 'out = append(out, ..)' -/
theorem box_appended {B Bo : Nat} {t : TypeId} {u v' : Value} {tmp : Obj} (h : Boxed X B t u) (hrow : X.ownsRow base e size v k xs) (hgrow : (X.alloc tmp).grownBy Y v.ownBlock) (hB : B < base) (hne : B ≠ Bo) :
    Boxed (Y.setCell ⟨Bo, 0, none⟩ v') B t u :=
  box_set ((h.alloc tmp).kept hgrow (row_far hrow hB)) hne v'
end

theorem calls_range {P : Program} {f : FuncId} {fn : Func} {c : Code} {args : Array Value} {w : World} {R : Ending → World → Prop} (hf : P.funcs[f]? = some fn) (hb : fn.body = some c)
    (h : c.wp P (bodyPostM Fence.wide 0 P fn R) { tmps := args ++ Array.replicate (fn.ntmps - args.size) undef, defers := [] } w) : Calls P f args w R :=
  callsIn_wide.1 (callsIn_of_wp_marks (n := 0) hf hb trivial (wpIn_wide.2 h) rfl)

/-! ### A region that draws its order, within a round -/

/-- the wide fence, in a plain frame (none) or in a round (some l) -/
abbrev Wd (r : Option Nat) : Fence := { Fence.wide with round := r }
theorem semAt_wd (r : Option Nat) (ρ : Operand → Value) (o : Oper) (h : ∀ c, o.op ≠ .defer c) : Oper.semAt r ρ o = execOp ρ o := by
  cases r with
  | none => exact Oper.semAt_none _ _
  | some l => exact Oper.semAt_some _ _ _ h
def noDefer (l : List Oper) : Bool := l.all fun o => match o.op with | .defer _ => false | _ => true

theorem wpIn_of_quietR {P : Program} {C : World → Prop} {o : Oper} {a : Act} {K : Act → Prop} {K' : Act → World → Prop} {Q' : Exit → Act → World → Prop} {w : World} {r : Option Nat} {n : Nat} (hd : ∀ c, o.op ≠ .defer c) (hw : C w) (h : ∀ a w', C w' → K a → K' a w') (hh : o.quiet P a C K) :
    o.wpIn (Wd r) n P a w K' Q' := by
  obtain ⟨v, h1, h2⟩ := hh
  have h3 := h1 w hw
  unfold Oper.quietAt at h3
  refine ⟨fun _ _ => trivial, ?_⟩
  show o.uponIn _ _ _ _ _ _ ((o.semAt r a.eval).run P w)
  rw [semAt_wd _ _ _ hd]
  generalize (execOp a.eval o).run P w = rr at *
  cases rr with
  | ok x w' =>
    cases x <;> simp only [Oper.quietUpon] at h3 <;> simp only [Oper.uponIn]
    case value u => obtain ⟨e1, e2⟩ := h3; rw [e1, e2]; exact h _ _ hw h2
    case skip => obtain ⟨e1, e2⟩ := h3; rw [e1, ← e2]; exact h _ _ hw h2
    case enter f args =>
      obtain ⟨e1, hc⟩ := h3
      rw [e1]
      exact ⟨(fun h => by cases h), (callsIn_wide.2 (hc.mono fun e w'' ⟨he, hw''⟩ => by subst he; exact h _ _ hw'' h2))⟩
  | halt x w' => simp only [Oper.quietUpon] at h3

theorem wpAnyIn_of_quietR {P : Program} {md : Region.Mode} {ops : Array Oper} {C : World → Prop} {Q : Act → Prop} {Q' : Exit → Act → World → Prop} {r : Option Nat} {n : Nat} (hd : ∀ (i : Nat) (o : Oper) c, ops[i]? = some o → o.op ≠ .defer c) (hQ : ∀ a w, C w → Q a → Q' .normal a w) :
    ∀ (fuel : Nat) (listed : Array Bool) (a : Act) (w : World), C w → wpAnyQ P md ops C Q fuel listed a → wpAnyIn (Wd r) n P md ops Q' fuel listed a w
  | 0, _, _, _, hw, h => ⟨h.1, hQ _ _ hw h.2⟩
  | fuel + 1, _, _, _, hw, h => ⟨fun h0 => hQ _ _ hw (h.1 h0), fun i hi => by
      have h1 := h.2 i hi
      unfold qOp at h1
      unfold wpOpIn
      cases ho : ops[i]? with
      | none => simp only [ho] at h1 ⊢; exact wpAnyIn_of_quietR hd hQ fuel _ _ _ hw h1
      | some o =>
        simp only [ho] at h1 ⊢
        split
        · rename_i hwt; simp only [hwt, if_true] at h1
          exact wpIn_of_quietR (fun c => hd i o c ho) hw (fun a' w' hw' h' => wpAnyIn_of_quietR hd hQ fuel _ a' w' hw' h') h1
        · rename_i hwt; simp only [hwt] at h1
          exact ⟨fun _ _ => trivial, wpAnyIn_of_quietR hd hQ fuel _ _ _ hw h1⟩⟩

theorem wpIn_region_ext {P : Program} {r : Option Nat} {id n : Nat} {Q : Exit → Act → World → Prop} {a : Act} {w : World} {ops : List Oper} (hm : P.follows .mixedOrders = true) (hB : Region.lexB .any ops.toArray = true) (hd : noDefer ops = true)
    (h : wpQuiet P ops.toArray (fun w' => ∃ x : GW w, w' = x.world) (fun a' => ∀ w', Ext w w' → Q .normal a' w') ops a) : (Code.region id ops.toArray true).wpIn (Wd r) n P Q a w := by
  simp only [← gw_all] at h
  simp only [Region.lexB, Bool.and_eq_true] at hB
  refine wpIn_region_any hm (wpAnyIn_of_quietR (Q := fun a' => ∀ w', (∃ x : GW w, w' = x.world) → Q .normal a' w') ?_ (fun _ w' hw' h => h w' hw') _ _ _ _ ⟨⟨_, ext_drew w⟩, rfl⟩ ?_)
  · intro i o c ho
    have hm : o ∈ ops := by
      have : ops[i]? = some o := by simpa using ho
      exact List.mem_of_getElem? this
    have := List.all_eq_true.1 hd o hm
    intro hc
    simp [hc] at this
  · have := wpAnyQ_lex (C := fun w' => ∃ x : GW w, w' = x.world) (md := .any) hB.1 ops 0 (Array.replicate ops.toArray.size false) a (by simp) (by simpa using hB.2) h
    simpa using this
end Go.Proofs.Ytfhgnmijigdlmaa
