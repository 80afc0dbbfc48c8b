/- Plain words and general laws, merged: Base Reg Rng Tail Tail1 App0 Recs Blk OwnG Float FillN OwnB MapO MapB Recs2. -/
import Derived.WalkKit
import Derived.Lib.Hide
import Derived.Deep.Draws
import Derived.WalkSpells
import Derived.WalkLawsBesides
import Derived.Deep.QuietTactic
import Derived.BigQuiet
import Derived.OrdersIn
import Derived.RangeFuncBox
import Derived.RangeFuncLeaves
import Derived.RangeFuncCalls
import Derived.RangeFuncNested
import Derived.StillTail
import Derived.OwnWalkIn
import Derived.TacticsInMore
import Derived.Maps.AppendAt
import Derived.Deep.AppendLies
import Derived.RegionTactic
import Derived.OwnWalk
import Derived.Deep.Slices
import Derived.Deep.Fields
import Derived.ChangeSame
import Derived.OpenShut
import Derived.ProofKit
import Derived.Lib.SmallJoins
import Derived.Maps.OwnOps
import Derived.Maps.OwnSet
import Derived.Maps.Views
import Derived.Test.YtbejgbflipoboaaProg
/- Plain words for what the walks say of memory: worlds that have only grown, slices of ints and of sites that read as lists. No program in sight. -/
namespace Go.Proofs.Ytbejgbflipoboaa
open Go.RowKit

/-- The world has only grown: whatever lay, lies as it lay. -/
abbrev Ext (w w' : World) : Prop := Below w.heap.size w w'

theorem Ext.rfl' (w : World) : Ext w w := Below.refl _ w
theorem Ext.trans' {a b c : World} (h : Ext a b) (k : Ext b c) : Ext a c := Below.trans h (Below.mono k h.size)
theorem Ext.cell' {a b : World} (h : Ext a b) {bl off : Nat} (hb : bl < a.heap.size) : b.cell? ⟨bl, off, none⟩ = a.cell? ⟨bl, off, none⟩ := h.cell (p := ⟨bl, off, none⟩) hb

/-- The slice address a leads to the ints l. -/
def Ints (w : World) (a : Option Addr) (l : List Int) : Prop :=
  ∀ j, j < l.length → ∃ b off, a = some ⟨b, off, none⟩ ∧ b < w.heap.size ∧ w.cell? ⟨b, off + j, none⟩ = some (.int .i64 (l[j]?.getD 0))

theorem Ints.ext {w w' : World} {a : Option Addr} {l : List Int} (h : Ints w a l) (hE : Ext w w') : Ints w' a l := fun j hj => by
  obtain ⟨b, off, ha, hb, hc⟩ := h j hj
  exact ⟨b, off, ha, Nat.lt_of_lt_of_le hb hE.size, (hE.cell' hb).trans hc⟩

/-- ret helper -/
theorem ret_bool {a b : Bool} (h : a = b) : Ending.returned (.bool a) = .returned (.bool b) := by rw [h]
theorem ret_int {k : IntKind} {a b : Int} (h : a = b) : Ending.returned (.int k a) = .returned (.int k b) := by rw [h]

/-- the first index at which the test says yes, or -1 -/
def idxP (p : Int → Bool) (l : List Int) : Int := match l.findIdx? p with | some i => i | none => -1
theorem idxP_hit {p : Int → Bool} {l : List Int} {k : Nat} (hk : k < l.length) (h : ∀ j, j < k → p (l[j]?.getD 0) = false) (hp : p l[k] = true) : idxP p l = k := by
  have : l.findIdx? p = some k := by
    rw [List.findIdx?_eq_some_iff_getElem]
    refine ⟨hk, hp, fun j hj => ?_⟩
    have := h j hj
    rw [List.getElem?_eq_getElem (by omega)] at this
    simpa using this
  simp [idxP, this]
theorem idxP_miss {p : Int → Bool} {l : List Int} (h : ∀ j, j < l.length → p (l[j]?.getD 0) = false) : idxP p l = -1 := by
  have : l.findIdx? p = none := by
    rw [List.findIdx?_eq_none_iff]
    intro x hx
    obtain ⟨j, hj, rfl⟩ := List.getElem_of_mem hx
    have := h j hj
    rw [List.getElem?_eq_getElem hj] at this
    simpa using this
  simp [idxP, this]
theorem idxP_geq (p : Int → Bool) (l : List Int) : decide (0 ≤ idxP p l) = l.any p := by
  unfold idxP
  cases h : l.findIdx? p with
  | none =>
    rw [List.findIdx?_eq_none_iff] at h
    have : l.any p = false := by simpa using h
    rw [this]; rfl
  | some i =>
    have : l.any p = true := by
      have := List.findIdx?_isSome (p := p) (xs := l)
      rw [h] at this; simpa using this.symm
    rw [this]; simp
theorem idxP_bd (p : Int → Bool) (l : List Int) : -1 ≤ idxP p l ∧ idxP p l ≤ l.length := by
  unfold idxP
  cases h : l.findIdx? p with
  | none => simp
  | some i =>
    have := (List.findIdx?_eq_some_iff_getElem.1 h).1
    simp; omega
def withinB (n lo hi : Int) : Bool := decide (lo ≤ n) && decide (n ≤ hi)
theorem withinB_iff {n lo hi : Int} : withinB n lo hi = true ↔ lo ≤ n ∧ n ≤ hi := by simp [withinB]

def errOf (b : Bool) : Int := if b then 0 else 1
end Go.Proofs.Ytbejgbflipoboaa
/- Regions that draw their order, whose operations read and whose callees leave all that lay as it lay (they may make memory): one walk of the text's order serves every order. Drawn from the library's theorem on classes of worlds. -/
namespace Go.Proofs.Ytbejgbflipoboaa
open Go.RowKit

/-- A world that has grown out of W. -/
structure GW (W : World) where
  world : World
  ext : Ext W world
instance GW.ne (W : World) : Nonempty (GW W) := ⟨⟨W, Below.refl _ _⟩⟩
theorem GW.cell {W : World} (x : GW W) {b o : Nat} (hb : b < W.heap.size) : x.world.cell? ⟨b, o, none⟩ = W.cell? ⟨b, o, none⟩ := x.ext.cell' hb

theorem ext_alloc (W : World) (o : Obj) : Ext W (W.alloc o) := (Below.refl _ W).alloc (Nat.le_refl _) _
theorem fz_new (W : World) (cs : Array Value) (T : TypeId) (i : Nat) : (W.alloc (.cells cs T)).frozen? ⟨W.heap.size, i, none⟩ = false := by
  have : (W.alloc (.cells cs T)).heap[W.heap.size]? = some (.cells cs T) := heap_alloc_new W _
  unfold World.frozen?
  simp only [this]
  simp
theorem fz_old {W W' : World} (h : Ext W W') {b : Nat} (hb : b < W.heap.size) (i : Nat) : W'.frozen? ⟨b, i, none⟩ = W.frozen? ⟨b, i, none⟩ := h.frozen (p := ⟨b, i, none⟩) hb
theorem ext_drew (W : World) : Ext W { W with drawn := W.drawn + 1 } := ⟨rfl, rfl, rfl, Nat.le_refl _, fun _ _ => rfl⟩

theorem gw_all {W : World} {K : World → Prop} : (∀ w', (∃ x : GW W, w' = x.world) → K w') ↔ ∀ w', Ext W w' → K w' :=
  ⟨fun h w' hE => h w' ⟨⟨w', hE⟩, rfl⟩, fun h w' ⟨x, hx⟩ => h w' (by rw [hx]; exact x.ext)⟩

theorem wp_region_ext {P : Program} {id : Nat} {Q : Exit → Act → World → Prop} {a : Act} {w : World} {l : List Oper} (hm : P.follows .mixedOrders = true) (hB : Region.lexB .any l.toArray = true)
    (h : wpQuiet P l.toArray (fun w' => ∃ x : GW w, w' = x.world) (fun a' => ∀ w', Ext w w' → Q .normal a' w') l a) : (Code.region id l.toArray true).wp P Q a w :=
  wp_region_quiet (C := fun w' => ∃ x : GW w, w' = x.world) hm hB ⟨⟨_, ext_drew w⟩, rfl⟩ (by simp only [gw_all]; exact h)

theorem quiet_ext {P : Program} {f : FuncId} {args : Array Value} {W : World} {x : GW W} {v : Value}
    (h : Calls P f args x.world fun e w' => e = .returned v ∧ Ext x.world w') : Calls P f args x.world fun e w'' => e = .returned v ∧ ∃ y : GW W, w'' = y.world :=
  h.mono fun _ w' ⟨he, hE⟩ => ⟨he, ⟨w', x.ext.trans' hE⟩, rfl⟩
theorem quiet_same {P : Program} {f : FuncId} {args : Array Value} {W : World} {x : GW W} {v : Value}
    (h : Calls P f args x.world fun e w' => e = .returned v ∧ x.world = w') : Calls P f args x.world fun e w'' => e = .returned v ∧ ∃ y : GW W, w'' = y.world :=
  h.mono fun _ _ ⟨he, hE⟩ => ⟨he, x, hE.symm⟩
end Go.Proofs.Ytbejgbflipoboaa
/- A range over a function whose rounds are known ahead by number (round k is handed the values encs k, there are N rounds): the contract of such an iterator, and one law for the statement. Over any program. And: a region that draws its order, within a round. -/
namespace Go.Proofs.Ytbejgbflipoboaa
open Go.RowKit

/-- The contract of an iterator with N rounds, round k handed 'encs k'; 'Kc': what it needs of memory between the rounds. -/
def SeqN (P : Program) (g : Nat) (lb : Array Value) (encs : Nat → Array Value) (N : Nat) (Kc : World → Prop) : Prop :=
  ∀ (l : Nat) (J Jx : Nat → World → Prop) (W : World), (∀ k A B, J k A → A.grownBy B none → J k B) → (∀ k A B, Jx k A → A.grownBy B none → Jx k B) → (∀ k A, J k A → Kc A) →
    (∀ k A, J k A → k < N → YieldAt Fence.wide 0 P l (encs k) A fun e B => (e = .returned (.bool true) ∧ J (k + 1) B) ∨ (e = .returned (.bool false) ∧ Jx (k + 1) B)) →
    J 0 W → CallsIn Fence.wide 0 P g (#[.func (.yield l) #[] #[]] ++ lb) W fun e B => (∃ v, e = .returned v) ∧ (J N B ∨ ∃ k, k ≤ N ∧ Jx k B)

/-- How a round's body may be left. -/
def postN (I : Nat → World → Prop) (Ix : Code → Nat → World → Prop) (k : Nat) (W : World) : Exit → Act → World → Prop
  | .normal, _, W' => KeepsOthers W W' ∧ I k W'
  | .ret, _, W' => KeepsOthers W W' ∧ Ix .ret k W'
  | .exit id, _, W' => KeepsOthers W W' ∧ Ix (.exit id) k W'
  | .goto t, _, W' => KeepsOthers W W' ∧ Ix (.goto t) k W'
  | .panic _, _, _ => False
  | .outgrown, _, _ => False

theorem wide_depth : Fence.wide.depth = none := rfl
theorem ext_keeps {W W' : World} (h : Ext W W') : KeepsOthers W W' :=
  ⟨h.size, fun k _ hk _ => (h.block k (Array.getElem?_eq_some_iff.1 hk).1).trans hk⟩

theorem wp_range {P : Program} {g : Operand} {ps : Array Tmp} {assign body : Code} {Q : Exit → Act → World → Prop} {a : Act} {w : World}
    {gf : Nat} {lb : Array Value} (hg : a.eval g = .func (.func gf) #[] lb) (eg : ∀ args w, (callFunc gf args).run P w = .ok (.enter gf args) w)
    {encs : Nat → Array Value} {N : Nat} {Kc : World → Prop} (hseq : SeqN P gf lb encs N Kc) (hps : ∀ k, (encs k).size = ps.size)
    (I : Nat → World → Prop) (Ix : Code → Nat → World → Prop) (hI : OwnFrom w.heap.size I) (hIx : ∀ c, OwnFrom w.heap.size (Ix c)) (hKc : ∀ k W, I k W → Kc W) (h0 : I 0 w) (a₁ : Nat → Act)
    (hassign : ∀ (l k : Nat) (W : World) (K : Act → World → Prop), K (a₁ k) W →
      assign.wpIn (Fence.wide.inRound l) 0 P (Exit.then K (fun _ _ _ => False)) { tmps := (ps.zip (encs k)).foldl (fun t (p, v) => t.setIfInBounds p v) a.tmps, defers := [] } W)
    (hbody : ∀ (l k : Nat) (W : World), I k W → k < N → body.wpIn (Fence.wide.inRound l) 0 P (postN I Ix (k + 1) W) (a₁ k) W)
    (hdone : ∀ (D : Nat) (W : World), w.heap.size ≤ D → I N W → W.heap[D]? = some (.deferred (some [])) → Q .normal { a with defers := { target := .collected D, args := #[] } :: a.defers } W)
    (hstop : ∀ (D : Nat) (c : Code) (k : Nat) (W : World), w.heap.size ≤ D → k ≤ N → Ix c k W → W.heap[D]? = some (.deferred (some [])) → c.wp P Q { a with defers := { target := .collected D, args := #[] } :: a.defers } W) :
    (Code.rangeFunc g ps assign body).wp P Q a w := by
  refine (wpIn_wide (n := 0)).1 (wpIn_rangeFunc ?_)
  intro fn hfn
  -- the two new objects: the block of deferred calls D, the record L
  let rec' : LoopState → Option Code → Loop := fun st pe => { state := st, pending := pe, fn, tmps := a.tmps, params := ps, assign, body, defers := w.heap.size }
  obtain ⟨W1, hW1⟩ : ∃ W1, (w.alloc (.deferred (some []))).alloc (.loop (rec' .ready none)) = W1 := ⟨_, rfl⟩
  have hL1 : W1.heap[w.heap.size + 1]? = some (.loop (rec' .ready none)) := by
    rw [← hW1]
    have := World.alloc_heap_new (w.alloc (.deferred (some []))) (.loop (rec' .ready none))
    rwa [World.size_alloc] at this
  have hD1 : W1.heap[w.heap.size]? = some (.deferred (some [])) := by
    rw [← hW1]; exact (Below.heap_alloc _ _ _ (by simp)).trans (World.alloc_heap_new w _)
  have hI1 : I 0 W1 := by rw [← hW1]; exact hI.alloc _ (hI.alloc _ h0)
  refine ⟨w.heap.size + 1, [{ target := .collected w.heap.size, args := #[] }], W1, { target := .fn (.func gf) lb, args := #[.func (.yield (w.heap.size + 1)) #[] #[]] }, W1, gf,
    #[.func (.yield (w.heap.size + 1)) #[] #[]] ++ lb, W1, ?_, ?_, fun _ _ => trivial, ?_, (fun h => by cases h), ?_⟩
  · rw [← hW1]; exact run_enterLoop_outer _ _ _ _ _
  · simp only [resolve, hg]; simp [go_sem]
  · simp [invoke, go_sem, eg]
  -- what is kept through the rounds, the record and the block beside it
  let Rec : LoopState → Option Code → World → Prop := fun st pe W => W.heap[w.heap.size + 1]? = some (.loop (rec' st pe)) ∧ W.heap[w.heap.size]? = some (.deferred (some []))
  have hgrow : ∀ {st pe A B}, Rec st pe A → A.grownBy B none → Rec st pe B := fun {st pe A B} h hAB =>
    ⟨(hAB.block _ (Array.getElem?_eq_some_iff.1 h.1).1 (by simp)).trans h.1, (hAB.block _ (Array.getElem?_eq_some_iff.1 h.2).1 (by simp)).trans h.2⟩
  have hput : ∀ {st pe A} (st' : LoopState) (pe' : Option Code), Rec st pe A → Rec st' pe' (A.putObj (w.heap.size + 1) (.loop (rec' st' pe'))) := fun {st pe A} st' pe' h =>
    ⟨World.putObj_heap_same (Array.getElem?_eq_some_iff.1 h.1).1, (World.putObj_heap_other (by omega)).trans h.2⟩
  have hIput : ∀ {β : Type} {K : β → World → Prop} {s : β} {st pe A} (o : Obj), OwnFrom w.heap.size K → K s A → Rec st pe A → K s (A.putObj (w.heap.size + 1) o) := fun o hK hs h =>
    hK.putObj _ hs (by omega) h.1 rfl
  refine (hseq (w.heap.size + 1) (fun k W => I k W ∧ Rec .ready none W) (fun k W => ∃ c, Ix c k W ∧ Rec .done (some c) W) W1
    (fun k A B h hAB => ⟨hI k A B none h.1 hAB (fun r e => by cases e), hgrow h.2 hAB⟩)
    (fun k A B h hAB => by obtain ⟨c, h1, h2⟩ := h; exact ⟨c, hIx c k A B none h1 hAB (fun r e => by cases e), hgrow h2 hAB⟩)
    (fun k A h => hKc k A h.1) ?_ ⟨hI1, hL1, hD1⟩).mono ?_
  · -- one round
    rintro k W ⟨hi, hr⟩ hk
    refine ⟨fn, _, assign, body, run_yield (args := encs k) hr.1 (by simp [rec', hps]), roundIn_of_wpIn hfn (hassign _ k W _ ⟨_, run_beginRound hr.1 rfl, ?_⟩)⟩
    have hr2 := hput .busy none hr
    have hi2 : I k (W.putObj (w.heap.size + 1) (.loop (rec' .busy none))) := hIput _ hI hi hr
    refine wpIn_mono (hbody _ k _ hi2 hk) ?_
    have fin : ∀ (jump : Option Code) (W3 : World), KeepsOthers (W.putObj (w.heap.size + 1) (.loop (rec' .busy none))) W3 →
        Rec .busy none W3 ∧ (Instr.endRound (w.heap.size + 1) jump).run P W3 = .ok (.bool jump.isNone) (W3.putObj (w.heap.size + 1) (.loop (rec' (if jump.isNone then .ready else .done) jump))) := fun jump W3 hk3 => by
      have h3 : Rec .busy none W3 := ⟨hk3.same _ _ hr2.1 rfl, hk3.same _ _ hr2.2 rfl⟩
      exact ⟨h3, run_endRound jump h3.1⟩
    rintro e a3 W3 hp
    cases e with
    | normal =>
      obtain ⟨hk3, hi3⟩ := hp
      obtain ⟨h3, he⟩ := fin none W3 hk3
      exact ⟨_, _, he, .inl ⟨rfl, hIput _ hI hi3 h3, hput _ _ h3⟩⟩
    | ret =>
      obtain ⟨hk3, hi3⟩ := hp
      obtain ⟨h3, he⟩ := fin (some .ret) W3 hk3
      exact ⟨_, _, he, .inr ⟨rfl, .ret, hIput _ (hIx _) hi3 h3, hput _ _ h3⟩⟩
    | exit id =>
      obtain ⟨hk3, hi3⟩ := hp
      obtain ⟨h3, he⟩ := fin (some (.exit id)) W3 hk3
      exact ⟨_, _, he, .inr ⟨rfl, .exit id, hIput _ (hIx _) hi3 h3, hput _ _ h3⟩⟩
    | goto t =>
      obtain ⟨hk3, hi3⟩ := hp
      obtain ⟨h3, he⟩ := fin (some (.goto t)) W3 hk3
      exact ⟨_, _, he, .inr ⟨rfl, .goto t, hIput _ (hIx _) hi3 h3, hput _ _ h3⟩⟩
    | panic ch => exact hp.elim
    | outgrown => exact hp.elim
  · -- behind the iterator
    rintro e W2 ⟨⟨v, rfl⟩, (⟨hi, hr⟩ | ⟨k, hk, c, hi, hr⟩)⟩
    · exact ⟨none, _, run_endLoop hr.1 (by simp [rec']), hdone _ _ (Nat.le_refl _) (hIput _ hI hi hr) ((World.putObj_heap_other (by omega)).trans hr.2)⟩
    · exact ⟨some c, _, run_endLoop hr.1 (by simp [rec']), wpIn_wide.2 (hstop _ c k _ (Nat.le_refl _) hk (hIput _ (hIx c) hi hr) ((World.putObj_heap_other (by omega)).trans hr.2))⟩

/-! ### What an invariant says of boxes, rows, grown worlds abides the law's own book-keeping -/
section
variable {X Y : World} {row : Option Nat} {B0 : Nat}
theorem box_keep {B : Nat} {t : TypeId} {v : Value} (h : Boxed X B t v) (hg : X.grownBy Y row) (hr : ∀ r, row = some r → B0 ≤ r ∧ ∃ o : Obj, X.heap[r]? = some o ∧ o.isCells = false) : Boxed Y B t v :=
  h.kept hg fun e => by
    obtain ⟨_, o, ho, hc⟩ := hr B e.symm
    rw [show X.heap[B]? = _ from h] at ho; cases ho; cases hc
theorem row_keep {base : Nat} {e : TypeId} {size : Nat} {v : Value} {k : Nat} {xs : List Value} (h : X.ownsRow base e size v k xs) (hg : X.grownBy Y row) (hr : ∀ r, row = some r → B0 ≤ r ∧ ∃ o : Obj, X.heap[r]? = some o ∧ o.isCells = false) : Y.ownsRow base e size v k xs := by
  refine h.kept hg ?_
  rcases h.2 with ⟨rfl, _⟩ | ⟨g, cap, cur, rfl, _, hgb, _⟩
  · exact .inl rfl
  · refine .inr fun e' => ?_
    obtain ⟨_, o, ho, hc⟩ := hr g (by simpa [Value.ownBlock] using e'.symm)
    rw [hgb] at ho; cases ho; cases hc
theorem ext_keep {w : World} (h : Ext w X) (hg : X.grownBy Y row) (hB : w.heap.size ≤ B0) (hr : ∀ r, row = some r → B0 ≤ r ∧ ∃ o : Obj, X.heap[r]? = some o ∧ o.isCells = false) : Ext w Y :=
  Below.grown h hg h.size fun k e => Nat.le_trans hB (hr k e).1
theorem ext_putObj {w : World} (h : Ext w X) {l : Nat} (hl : w.heap.size ≤ l) (o : Obj) : Ext w (X.putObj l o) :=
  Below.grown h (grownBy_putObj' X l o) h.size fun k e => by cases e; exact hl
theorem box_putObj {B : Nat} {t : TypeId} {v : Value} (h : Boxed X B t v) {l : Nat} (hl : B ≠ l) (o : Obj) : Boxed (X.putObj l o) B t v :=
  h.kept (grownBy_putObj' X l o) (by simpa using hl)
theorem box_ext {B : Nat} {t : TypeId} {v : Value} (h : Boxed X B t v) (hE : Ext X Y) : Boxed Y B t v := (hE.block B h.lt).trans h
theorem row_ext {base : Nat} {e : TypeId} {size : Nat} {v : Value} {k : Nat} {xs : List Value} (h : X.ownsRow base e size v k xs) (hE : Ext X Y) : Y.ownsRow base e size v k xs :=
  h.kept (row := none) ⟨hE.os, hE.tape, hE.output, hE.size, fun i hi _ => hE.block i hi⟩ (by cases hv : v.ownBlock <;> simp)
theorem box_set {B B' : Nat} {t : TypeId} {v : Value} (h : Boxed X B t v) (hne : B ≠ B') (u : Value) : Boxed (X.setCell ⟨B', 0, none⟩ u) B t v := (Below.heap_setCell X ⟨B', 0, none⟩ u B hne).trans h
end

section
variable {X Y : World} {base : Nat} {e : TypeId} {size : Nat} {v : Value} {k : Nat} {xs : List Value}
theorem row_base (h : X.ownsRow base e size v k xs) {base' : Nat} (hb : base' ≤ base) : X.ownsRow base' e size v k xs := by
  refine ⟨h.1, ?_⟩
  rcases h.2 with h2 | ⟨g, cap, cur, h1, h2, h3⟩
  · exact .inl h2
  · exact .inr ⟨g, cap, cur, h1, Nat.le_trans hb h2, h3⟩
theorem row_cell {g n' cap : Nat} (h : X.ownsRow base e 1 (.slice (some ⟨g, 0, none⟩) n' cap) k xs) {j : Nat} {u : Value} (hu : xs[j]? = some u) : X.cell? ⟨g, j, none⟩ = some u := by
  have hc := h.cells (g := g) rfl j u hu
  have e : Addr.add ⟨g, 0, none⟩ j = ⟨g, j, none⟩ := by
    unfold Addr.add
    split
    · rename_i h; simp_all
    · simp
  rwa [e] at hc
theorem row_far (h : X.ownsRow base e size v k xs) {B : Nat} (hB : B < base) : some B ≠ v.ownBlock := by
  rcases h.2 with ⟨rfl, _⟩ | ⟨g, cap, cur, rfl, hb, _⟩
  · simp [Value.ownBlock]
  · intro e'
    obtain rfl : B = g := by simpa [Value.ownBlock] using e'
    omega
theorem ext_append {w : World} {tmp : Obj} (h : Ext w X) (hrow : X.ownsRow base e size v k xs) (hb : w.heap.size ≤ base) (hgrow : (X.alloc tmp).grownBy Y v.ownBlock) : Ext w Y :=
  (h.alloc h.size tmp).grown hgrow (by have := h.size; simp; omega) fun j ej => by
    rcases hrow.2 with ⟨rfl, _⟩ | ⟨g, cap, cur, rfl, hg, _, _⟩
    · simp [Value.ownBlock] at ej
    · obtain rfl : g = j := by simpa [Value.ownBlock] using ej
      exact Nat.le_trans hb hg
/-- a box below the row's base, other than the box that holds the row, lies as it lay behind 'out = append(out, ..)' -/
theorem box_appended {B Bo : Nat} {t : TypeId} {u v' : Value} {tmp : Obj} (h : Boxed X B t u) (hrow : X.ownsRow base e size v k xs) (hgrow : (X.alloc tmp).grownBy Y v.ownBlock) (hB : B < base) (hne : B ≠ Bo) :
    Boxed (Y.setCell ⟨Bo, 0, none⟩ v') B t u :=
  box_set ((h.alloc tmp).kept hgrow (row_far hrow hB)) hne v'
end

theorem calls_range {P : Program} {f : FuncId} {fn : Func} {c : Code} {args : Array Value} {w : World} {R : Ending → World → Prop} (hf : P.funcs[f]? = some fn) (hb : fn.body = some c)
    (h : c.wp P (bodyPostM Fence.wide 0 P fn R) { tmps := args ++ Array.replicate (fn.ntmps - args.size) undef, defers := [] } w) : Calls P f args w R :=
  callsIn_wide.1 (callsIn_of_wp_marks (n := 0) hf hb trivial (wpIn_wide.2 h) rfl)

/-! ### A region that draws its order, within a round -/

/-- the wide fence, in a plain frame (none) or in a round (some l) -/
abbrev Wd (r : Option Nat) : Fence := { Fence.wide with round := r }
theorem semAt_wd (r : Option Nat) (ρ : Operand → Value) (o : Oper) (h : ∀ c, o.op ≠ .defer c) : Oper.semAt r ρ o = execOp ρ o := by
  cases r with
  | none => exact Oper.semAt_none _ _
  | some l => exact Oper.semAt_some _ _ _ h
def noDefer (l : List Oper) : Bool := l.all fun o => match o.op with | .defer _ => false | _ => true

theorem wpIn_of_quietR {P : Program} {C : World → Prop} {o : Oper} {a : Act} {K : Act → Prop} {K' : Act → World → Prop} {Q' : Exit → Act → World → Prop} {w : World} {r : Option Nat} {n : Nat} (hd : ∀ c, o.op ≠ .defer c) (hw : C w) (h : ∀ a w', C w' → K a → K' a w') (hh : o.quiet P a C K) :
    o.wpIn (Wd r) n P a w K' Q' := by
  obtain ⟨v, h1, h2⟩ := hh
  have h3 := h1 w hw
  unfold Oper.quietAt at h3
  refine ⟨fun _ _ => trivial, ?_⟩
  show o.uponIn _ _ _ _ _ _ ((o.semAt r a.eval).run P w)
  rw [semAt_wd _ _ _ hd]
  generalize (execOp a.eval o).run P w = rr at *
  cases rr with
  | ok x w' =>
    cases x <;> simp only [Oper.quietUpon] at h3 <;> simp only [Oper.uponIn]
    case value u => obtain ⟨e1, e2⟩ := h3; rw [e1, e2]; exact h _ _ hw h2
    case skip => obtain ⟨e1, e2⟩ := h3; rw [e1, ← e2]; exact h _ _ hw h2
    case enter f args =>
      obtain ⟨e1, hc⟩ := h3
      rw [e1]
      exact ⟨(fun h => by cases h), (callsIn_wide.2 (hc.mono fun e w'' ⟨he, hw''⟩ => by subst he; exact h _ _ hw'' h2))⟩
  | halt x w' => simp only [Oper.quietUpon] at h3

theorem wpAnyIn_of_quietR {P : Program} {md : Region.Mode} {ops : Array Oper} {C : World → Prop} {Q : Act → Prop} {Q' : Exit → Act → World → Prop} {r : Option Nat} {n : Nat} (hd : ∀ (i : Nat) (o : Oper) c, ops[i]? = some o → o.op ≠ .defer c) (hQ : ∀ a w, C w → Q a → Q' .normal a w) :
    ∀ (fuel : Nat) (listed : Array Bool) (a : Act) (w : World), C w → wpAnyQ P md ops C Q fuel listed a → wpAnyIn (Wd r) n P md ops Q' fuel listed a w
  | 0, _, _, _, hw, h => ⟨h.1, hQ _ _ hw h.2⟩
  | fuel + 1, _, _, _, hw, h => ⟨fun h0 => hQ _ _ hw (h.1 h0), fun i hi => by
      have h1 := h.2 i hi
      unfold qOp at h1
      unfold wpOpIn
      cases ho : ops[i]? with
      | none => simp only [ho] at h1 ⊢; exact wpAnyIn_of_quietR hd hQ fuel _ _ _ hw h1
      | some o =>
        simp only [ho] at h1 ⊢
        split
        · rename_i hwt; simp only [hwt, if_true] at h1
          exact wpIn_of_quietR (fun c => hd i o c ho) hw (fun a' w' hw' h' => wpAnyIn_of_quietR hd hQ fuel _ a' w' hw' h') h1
        · rename_i hwt; simp only [hwt] at h1
          exact ⟨fun _ _ => trivial, wpAnyIn_of_quietR hd hQ fuel _ _ _ hw h1⟩⟩

theorem wpIn_region_ext {P : Program} {r : Option Nat} {id n : Nat} {Q : Exit → Act → World → Prop} {a : Act} {w : World} {ops : List Oper} (hm : P.follows .mixedOrders = true) (hB : Region.lexB .any ops.toArray = true) (hd : noDefer ops = true)
    (h : wpQuiet P ops.toArray (fun w' => ∃ x : GW w, w' = x.world) (fun a' => ∀ w', Ext w w' → Q .normal a' w') ops a) : (Code.region id ops.toArray true).wpIn (Wd r) n P Q a w := by
  simp only [← gw_all] at h
  simp only [Region.lexB, Bool.and_eq_true] at hB
  refine wpIn_region_any hm (wpAnyIn_of_quietR (Q := fun a' => ∀ w', (∃ x : GW w, w' = x.world) → Q .normal a' w') ?_ (fun _ w' hw' h => h w' hw') _ _ _ _ ⟨⟨_, ext_drew w⟩, rfl⟩ ?_)
  · intro i o c ho
    have hm : o ∈ ops := by
      have : ops[i]? = some o := by simpa using ho
      exact List.mem_of_getElem? this
    have := List.all_eq_true.1 hd o hm
    intro hc
    simp [hc] at this
  · have := wpAnyQ_lex (C := fun w' => ∃ x : GW w, w' = x.world) (md := .any) hB.1 ops 0 (Array.replicate ops.toArray.size false) a (by simp) (by simpa using hB.2) h
    simpa using this
end Go.Proofs.Ytbejgbflipoboaa
/- A region that draws its order and whose first n operations are quiet over grown worlds (they read, or call what leaves all that lay as it lay), the rest being forced into one order behind them: one walk of the text's order serves every order. In a plain frame and within a round. -/
namespace Go.Proofs.Ytbejgbflipoboaa
open Go.RowKit

section
variable {P : Program} {ops : Array Oper} {md : Region.Mode} {C : World → Prop}

/-- the head's operations, in whatever order may come up; none of the tail comes up before they are done -/
def headC (P : Program) (ops : Array Oper) (md : Region.Mode) (C : World → Prop) (n : Nat) (L : Array Bool → Act → Prop) : Nat → Array Bool → Act → Prop
  | 0, listed, a => L listed a
  | f + 1, listed, a => Region.ready md ops listed ≠ [] ∧ ∀ i ∈ Region.ready md ops listed, i < n ∧ qOp P ops C i (headC P ops md C n L f (listed.setIfInBounds i true)) a

theorem headC_first {n i : Nat} {oi : Oper} {v : Value} {L : Array Bool → Act → Prop} (hi : ops[i]? = some oi) (hsel : ∀ (j : Nat) (o : Oper) cs b, ops[j]? = some o → o.op ≠ .select cs b)
    (hs : Region.sinkB md ops n = true) (hc : Region.chainB md ops n = true) (hn : n < ops.size) (hin : i < n)
    (hL : ∀ listed a, L listed a → ∀ j ∈ Region.ready md ops listed, n ≤ j) (f : Nat) :
    ∀ (listed : Array Bool) (a : Act), HeadInv md ops n listed →
      (∀ j oj, ops[j]? = some oj → j ≠ i → listed.getD j true = false → (∀ e ∈ oj.after, Region.binds md e = true → e.on ≠ i) → oi.apart ops oj = true) →
      i ∈ Region.ready md ops listed → YieldsIn P ops C oi v a →
      headC P ops md C n L f (listed.setIfInBounds i true) (a.put oi.dst v) → headC P ops md C n L (f + 1) listed a := by
  induction f with
  | zero =>
    intro listed a inv _ hr hy H
    refine ⟨List.ne_nil_of_mem hr, fun j hj => ?_⟩
    have hjn : j < n := by
      rcases Nat.lt_or_ge j n with h | h
      · exact h
      · exact absurd hj (tail_waits hs hc hn inv _ i rfl hin (mem_ready.1 hr).1 j h)
    by_cases hji : j = i
    · subst hji; exact ⟨hjn, hy.qOp hi H⟩
    · exact absurd (hL _ _ H j (ready_mono hj hji)) (by omega)
  | succ f ih =>
    intro listed a inv hfree hr hy H
    refine ⟨List.ne_nil_of_mem hr, fun j hj => ?_⟩
    have hjn : j < n := by
      rcases Nat.lt_or_ge j n with h | h
      · exact h
      · exact absurd hj (tail_waits hs hc hn inv _ i rfl hin (mem_ready.1 hr).1 j h)
    refine ⟨hjn, ?_⟩
    by_cases hji : j = i
    · subst hji; exact hy.qOp hi H
    · obtain ⟨hjun, oj, hoj, hall⟩ := mem_ready.1 hj
      have hnot : ∀ e ∈ oj.after, Region.binds md e = true → e.on ≠ i := fun e he hb heq => by
        have h1 := hall e he hb
        rw [heq, getD_both (mem_ready.1 hr).1] at h1
        cases h1
      have h2 := qOp_put hoj (hfree j oj hoj hji hjun hnot) (fun cs b => hsel i oi cs b hi) (fun cs b => hsel j oj cs b hoj) hy (H.2 j (ready_mono hj hji)).2
      refine qOp_mono (fun a' h3 => ih (listed.setIfInBounds j true) a' (inv.set hj hjn) (fun k ok hk hki hun hno => ?_) (ready_mono hr (Ne.symm hji)) h3.1 ?_) h2
      · refine hfree k ok hk hki ?_ hno
        by_cases hjk : j = k
        · subst hjk; exact hjun
        · rw [getD_set_ne true hjk] at hun; exact hun
      · rw [Array.setIfInBounds_comm _ _ hji]
        exact h3.2

theorem headC_lex {n g : Nat} {T : Act → Prop} (hsel : Region.noSelect ops = true) (hs : Region.sinkB md ops n = true) (hc : Region.chainB md ops n = true) (hn : n < ops.size) :
    ∀ (l : List Oper) (k : Nat) (listed : Array Bool) (a : Act), (∀ j, j < l.length → l[j]? = ops[k + j]?) → k + l.length = n → HeadInv md ops n listed →
    Region.lexHead md ops g l.length k listed = true → wpQuiet P ops C T l a →
    headC P ops md C n (fun listed' a' => Region.seqB md ops g n listed' = true ∧ T a') l.length listed a
  | [], k, listed, a, _, hk, _, hB, h => by
    obtain rfl : k = n := by simpa using hk
    exact ⟨by simpa [Region.lexHead] using hB, h⟩
  | o :: l, k, listed, a, hl, hk, inv, hB, h => by
    have h0 : ops[k]? = some o := by simpa using (hl 0 (by simp)).symm
    simp only [List.length_cons, Region.lexHead, Bool.and_eq_true] at hB
    obtain ⟨⟨hr, hf⟩, hB'⟩ := hB
    have hr' : k ∈ Region.ready md ops listed := by simpa using hr
    have hkn : k < n := by simp only [List.length_cons] at hk; omega
    have hst : qOp P ops C k (wpQuiet P ops C T l) a := by unfold qOp; simp only [h0]; exact h
    obtain ⟨v, hy, hK⟩ := yieldsIn_of_qOp h0 hst
    refine headC_first h0 (Region.noSelect_spec hsel) hs hc hn hkn (fun listed' a' hL => seqB_ready hL.1) l.length listed a inv (Region.free_spec h0 hf) hr' hy ?_
    refine headC_lex hsel hs hc hn l (k + 1) _ _ (fun j hj => ?_) ?_ (inv.set hr' hkn) hB' hK
    · have := hl (j + 1) (by simp; omega)
      simpa [Nat.add_assoc, Nat.add_comm 1 j] using this
    · simp only [List.length_cons] at hk; omega

theorem any_of_headC {n g : Nat} {L : Array Bool → Act → Prop} {Q' : Exit → Act → World → Prop} (hL : ∀ listed a w, C w → L listed a → wpAny P md ops Q' g listed a w) :
    ∀ (f : Nat) (listed : Array Bool) (a : Act) (w : World), C w → headC P ops md C n L f listed a → wpAny P md ops Q' (f + g) listed a w
  | 0, listed, a, w, hw, h => by rw [Nat.zero_add]; exact hL _ _ _ hw h
  | f + 1, listed, a, w, hw, h => by
    rw [show f + 1 + g = (f + g) + 1 by omega]
    exact ⟨fun h0 => absurd h0 h.1, fun i hi => wpOp_of_qOp hw (fun a' w' hw' h' => any_of_headC hL f _ a' w' hw' h') (h.2 i hi).2⟩

theorem headInv_none {l : List Oper} (n : Nat) : HeadInv md l.toArray n (Array.replicate l.toArray.size false) :=
  ⟨by simp, fun j oj _ hl => (by rw [getD_replicate_false] at hl; cases hl), fun t _ ht => getD_in (by simpa using ht) (getD_replicate_false _ _)⟩
end

theorem wp_region_ext_tail {P : Program} {id : Nat} {Q : Exit → Act → World → Prop} {a : Act} {w : World} {l : List Oper} (n : Nat) (hm : P.follows .mixedOrders = true) (hB : Region.lexTailB .any l.toArray n = true)
    (h : wpQuiet P l.toArray (fun w' => ∃ x : GW w, w' = x.world) (fun a' => ∀ w', Ext w w' → wpList P l.toArray Q (l.drop n) a' w') (l.take n) a) : (Code.region id l.toArray true).wp P Q a w := by
  simp only [← gw_all] at h
  simp only [Region.lexTailB, Bool.and_eq_true, decide_eq_true_eq] at hB
  obtain ⟨⟨⟨⟨hsel, hn⟩, hs⟩, hc⟩, hlex⟩ := hB
  have hn' : n < l.length := by simpa using hn
  have htl : (l.take n).length = n := by simp; omega
  have hdl : (l.drop n).length = l.toArray.size - n := by simp
  have H := headC_lex (md := .any) (g := l.toArray.size - n) hsel hs hc hn (l.take n) 0 _ a (fun j hj => by
    have hj' : j < n := by rw [htl] at hj; exact hj
    simp [hj']) (by simpa using htl) (headInv_none n) (by rw [htl]; exact hlex) h
  refine wp_region_any hm ?_
  have := any_of_headC (Q' := Q) (g := l.toArray.size - n) (fun listed a' w' hw' hL => by
    have := wpAny_of_seq (md := .any) (Q' := Q) (l.drop n) n listed a' w' (fun j => by simp [List.getElem?_drop]) (by rw [hdl]; exact hL.1) (hL.2 w' hw')
    rwa [hdl] at this) _ _ _ _ ⟨⟨_, ext_drew w⟩, rfl⟩ H
  rw [htl, show n + (l.toArray.size - n) = l.toArray.size by omega] at this
  exact this

/-! ### within a round -/

theorem wpOpIn_of_qOpR {P : Program} {ops : Array Oper} {C : World → Prop} {r : Option Nat} {i n : Nat} {a : Act} {K : Act → Prop} {K' : Act → World → Prop} {Q' : Exit → Act → World → Prop} {w : World} (hd : ∀ (i : Nat) (o : Oper) c, ops[i]? = some o → o.op ≠ .defer c)
    (hC : C w) (h : ∀ a w', C w' → K a → K' a w') (hh : qOp P ops C i K a) : wpOpIn (Wd r) n P ops Q' i K' a w := by
  unfold qOp at hh
  unfold wpOpIn
  cases ho : ops[i]? with
  | none => simp only [ho] at hh ⊢; exact h _ _ hC hh
  | some o =>
    simp only [ho] at hh ⊢
    split
    · rename_i hwt; simp only [hwt, if_true] at hh
      exact wpIn_of_quietR (fun c => hd i o c ho) hC h hh
    · rename_i hwt; simp only [hwt] at hh
      exact ⟨fun _ _ => trivial, h _ _ hC hh⟩

theorem anyIn_of_headC {P : Program} {ops : Array Oper} {md : Region.Mode} {C : World → Prop} {r : Option Nat} {n g m : Nat} {L : Array Bool → Act → Prop} {Q' : Exit → Act → World → Prop} (hd : ∀ (i : Nat) (o : Oper) c, ops[i]? = some o → o.op ≠ .defer c)
    (hL : ∀ listed a w, C w → L listed a → wpAnyIn (Wd r) m P md ops Q' g listed a w) :
    ∀ (f : Nat) (listed : Array Bool) (a : Act) (w : World), C w → headC P ops md C n L f listed a → wpAnyIn (Wd r) m P md ops Q' (f + g) listed a w
  | 0, listed, a, w, hw, h => by rw [Nat.zero_add]; exact hL _ _ _ hw h
  | f + 1, listed, a, w, hw, h => by
    rw [show f + 1 + g = (f + g) + 1 by omega]
    exact ⟨fun h0 => absurd h0 h.1, fun i hi => wpOpIn_of_qOpR hd hw (fun a' w' hw' h' => anyIn_of_headC hd hL f _ a' w' hw' h') (h.2 i hi).2⟩
theorem anyIn_of_seq {P : Program} {ops : Array Oper} {md : Region.Mode} {F : Fence} {m : Nat} {Q' : Exit → Act → World → Prop} : ∀ (l : List Oper) (k : Nat) (listed : Array Bool) (a : Act) (w : World), (∀ j, l[j]? = ops[k + j]?) →
    Region.seqB md ops l.length k listed = true → wpListIn F m P ops Q' l a w → wpAnyIn F m P md ops Q' l.length listed a w
  | [], _, _, _, _, _, hB, h => ⟨by simpa [Region.seqB] using hB, h⟩
  | o :: l, k, listed, a, w, hl, hB, h => by
    have h0 : ops[k]? = some o := by simpa using (hl 0).symm
    simp only [List.length_cons, Region.seqB, Bool.and_eq_true, decide_eq_true_eq] at hB
    refine ⟨fun h1 => (by rw [hB.1] at h1; cases h1), fun i hi => ?_⟩
    rw [hB.1] at hi
    obtain rfl : i = k := by simpa using hi
    have hw : wpOpIn F m P ops Q' i (wpListIn F m P ops Q' l) a w := by unfold wpOpIn; simp only [h0]; exact h
    refine wpOpIn_mono (fun a' w' h' => anyIn_of_seq l (i + 1) _ a' w' (fun j => ?_) hB.2 h') hw
    have := hl (j + 1)
    simpa [Nat.add_assoc, Nat.add_comm 1 j] using this

theorem wpIn_region_ext_tail {P : Program} {r : Option Nat} {id m : Nat} {Q : Exit → Act → World → Prop} {a : Act} {w : World} {l : List Oper} (n : Nat) (hm : P.follows .mixedOrders = true) (hB : Region.lexTailB .any l.toArray n = true) (hd : noDefer l = true)
    (h : wpQuiet P l.toArray (fun w' => ∃ x : GW w, w' = x.world) (fun a' => ∀ w', Ext w w' → wpListIn (Wd r) m P l.toArray Q (l.drop n) a' w') (l.take n) a) : (Code.region id l.toArray true).wpIn (Wd r) m P Q a w := by
  simp only [← gw_all] at h
  simp only [Region.lexTailB, Bool.and_eq_true, decide_eq_true_eq] at hB
  obtain ⟨⟨⟨⟨hsel, hn⟩, hs⟩, hc⟩, hlex⟩ := hB
  have hn' : n < l.length := by simpa using hn
  have htl : (l.take n).length = n := by simp; omega
  have hdl : (l.drop n).length = l.toArray.size - n := by simp
  have H := headC_lex (md := .any) (g := l.toArray.size - n) hsel hs hc hn (l.take n) 0 _ a (fun j hj => by
    have hj' : j < n := by rw [htl] at hj; exact hj
    simp [hj']) (by simpa using htl) (headInv_none n) (by rw [htl]; exact hlex) h
  refine wpIn_region_any hm ?_
  have hd' : ∀ (i : Nat) (o : Oper) c, l.toArray[i]? = some o → o.op ≠ .defer c := fun i o c ho hc' => by
    have hmem : o ∈ l := List.mem_of_getElem? (by simpa using ho : l[i]? = some o)
    have := List.all_eq_true.1 hd o hmem
    simp [hc'] at this
  have := anyIn_of_headC (Q' := Q) (r := r) (m := m) (g := l.toArray.size - n) hd' (fun listed a' w' hw' hL => by
    have := anyIn_of_seq (F := Wd r) (m := m) (md := .any) (Q' := Q) (l.drop n) n listed a' w' (fun j => by simp [List.getElem?_drop]) (by rw [hdl]; exact hL.1) (hL.2 w' hw')
    rwa [hdl] at this) _ _ _ _ ⟨⟨_, ext_drew w⟩, rfl⟩ H
  rw [htl, show n + (l.toArray.size - n) = l.toArray.size by omega] at this
  exact this

/-! ### a region within a round, opened as in a plain frame -/

theorem wpIn_wd {P : Program} {o : Oper} {a : Act} {w : World} {K : Act → World → Prop} {Q : Exit → Act → World → Prop} {r : Option Nat} {m : Nat} (hd : ∀ c, o.op ≠ .defer c)
    (h : o.wpIn Fence.wide m P a w K Q) : o.wpIn (Wd r) m P a w K Q := by
  refine ⟨fun _ _ => trivial, ?_⟩
  have h2 := h.2
  show o.uponIn _ _ _ _ _ _ ((o.semAt r a.eval).run P w)
  rw [semAt_wd _ _ _ hd]
  have e : (o.semAt Fence.wide.round a.eval) = execOp a.eval o := Oper.semAt_none _ _
  rw [e] at h2
  generalize (execOp a.eval o).run P w = rr at *
  cases rr with
  | ok x w' => cases x <;> exact h2
  | halt x w' => cases x <;> exact h2

theorem anyIn_wd {P : Program} {md : Region.Mode} {ops : Array Oper} {Q : Exit → Act → World → Prop} {r : Option Nat} {m : Nat} (hd : ∀ (i : Nat) (o : Oper) c, ops[i]? = some o → o.op ≠ .defer c) :
    ∀ (f : Nat) (listed : Array Bool) (a : Act) (w : World), wpAnyIn Fence.wide m P md ops Q f listed a w → wpAnyIn (Wd r) m P md ops Q f listed a w
  | 0, _, _, _, h => h
  | f + 1, _, _, _, h => ⟨h.1, fun i hi => by
      have h1 := wpOpIn_mono (fun a w => anyIn_wd (r := r) hd f _ a w) (h.2 i hi)
      unfold wpOpIn at h1 ⊢
      cases ho : ops[i]? with
      | none => simp only [ho] at h1 ⊢; exact h1
      | some o =>
        simp only [ho] at h1 ⊢
        split
        · rename_i hw; simp only [hw, if_true] at h1; exact wpIn_wd (fun c => hd i o c ho) h1
        · rename_i hw; simp only [hw] at h1; exact ⟨fun _ _ => trivial, h1.2⟩⟩

theorem wpIn_region_open {P : Program} {r : Option Nat} {id m : Nat} {Q : Exit → Act → World → Prop} {a : Act} {w : World} {l : List Oper} (hm : P.follows .mixedOrders = true) (hd : noDefer l = true)
    (h : ∀ W', Ext w W' → wpAnyIn Fence.wide m P .any l.toArray Q l.toArray.size (Array.replicate l.toArray.size false) a W') : (Code.region id l.toArray true).wpIn (Wd r) m P Q a w :=
  wpIn_region_any hm (anyIn_wd (fun i o c ho hc' => by
    have hmem : o ∈ l := List.mem_of_getElem? (by simpa using ho : l[i]? = some o)
    have := List.all_eq_true.1 hd o hmem
    simp [hc'] at this) _ _ _ _ (h _ (ext_drew w)))

theorem anyIn_of_drop {P : Program} {md : Region.Mode} {F : Fence} {m f : Nat} {Q' : Exit → Act → World → Prop} {L : List Oper} {listed : Array Bool} {a : Act} {w : World} (k : Nat) (hf : f = L.length - k) (hB : Region.seqB md L.toArray (L.length - k) k listed = true)
    (h : wpListIn F m P L.toArray Q' (L.drop k) a w) : wpAnyIn F m P md L.toArray Q' f listed a w := by
  have := anyIn_of_seq (F := F) (m := m) (md := md) (ops := L.toArray) (L.drop k) k listed a w (fun j => by simp [List.getElem?_drop]) (by simpa using hB) h
  rw [hf]; simpa using this
end Go.Proofs.Ytbejgbflipoboaa
/- As Tail, where the first operation is a mere copy that only the tail waits for. -/
namespace Go.Proofs.Ytbejgbflipoboaa
open Go.RowKit

/-! ### the first operation is a mere copy that only the tail waits for: 'out = append(out, ..)' -/
section
variable {P : Program} {md : Region.Mode} {C : World → Prop}

def sink1 (md : Region.Mode) (ops : Array Oper) (n : Nat) : Bool :=
  (List.range n).all fun i => decide (i = 0) || (List.range (n + 1)).any fun j => decide (i < j) && Region.waitsFor md ops j i
def tail1B (md : Region.Mode) (ops : Array Oper) (n : Nat) : Bool :=
  Region.noSelect ops && decide (n < ops.size) && sink1 md ops n && Region.chainB md ops n && decide (1 ≤ n) && (match ops[0]? with | some o => o.after.isEmpty && (match o.op with | .move _ => true | _ => false) && o.guard.isNone | none => false) &&
    ((Region.ready md ops (Array.replicate ops.size false)).contains 0 && Region.free md ops (Array.replicate ops.size false) 0) && Region.lexHead md ops (ops.size - n) (n - 1) 1 ((Array.replicate ops.size false).setIfInBounds 0 true)

theorem tail_waits1 {ops : Array Oper} {n : Nat} {listed : Array Bool} (hs : sink1 md ops n = true) (hc : Region.chainB md ops n = true) (hn : n < ops.size) (inv : HeadInv md ops n listed) :
    ∀ (d i : Nat), n - i = d → 1 ≤ i → i < n → listed.getD i true = false → ∀ t, n ≤ t → t ∉ Region.ready md ops listed := by
  intro d
  induction d using Nat.strongRecOn with
  | _ d ih =>
    intro i hd hi1 hi hun t ht hr
    obtain ⟨_, ot, hot, hall⟩ := mem_ready.1 hr
    have htlt : t < ops.size := (Array.getElem?_eq_some_iff.1 hot).1
    by_cases htn : t = n
    · subst htn
      have h1 := List.all_eq_true.1 hs i (List.mem_range.2 hi)
      simp only [Bool.or_eq_true, decide_eq_true_eq] at h1
      rcases h1 with h1 | h1
      · omega
      obtain ⟨j, hj, hj2⟩ := List.any_eq_true.1 h1
      simp only [Bool.and_eq_true, decide_eq_true_eq] at hj2
      obtain ⟨oj, hoj, e, he, hb, hon⟩ := Region.waitsFor_spec hj2.2
      have hjle : j ≤ t := by have := List.mem_range.1 hj; omega
      by_cases hjt : j = t
      · subst hjt
        obtain rfl : oj = ot := Option.some.inj (hoj.symm.trans hot)
        have h2 := hall e he hb
        rw [hon, getD_both hun] at h2
        cases h2
      · cases hl : listed.getD j false with
        | true =>
          have h2 := inv.closed j oj hoj hl e he hb
          rw [hon, getD_both hun] at h2
          cases h2
        | false =>
          have hjs : j < listed.size := by rw [inv.size]; omega
          exact ih (t - j) (by omega) j rfl (by omega) (by omega) (getD_in hjs hl) t (Nat.le_refl _) hr
    · have h1 := List.all_eq_true.1 hc t (List.mem_range.2 htlt)
      simp only [Bool.or_eq_true, decide_eq_true_eq] at h1
      rcases h1 with h1 | h1
      · omega
      · obtain ⟨o', ho', e, he, hb, hon⟩ := Region.waitsFor_spec h1
        obtain rfl : o' = ot := Option.some.inj (ho'.symm.trans hot)
        have h2 := hall e he hb
        rw [hon, getD_both (inv.tail (t - 1) (by omega) (by omega))] at h2
        cases h2

theorem headC_first1 {ops : Array Oper} {n i : Nat} {oi : Oper} {v : Value} {L : Array Bool → Act → Prop} (hi : ops[i]? = some oi) (hsel : ∀ (j : Nat) (o : Oper) cs b, ops[j]? = some o → o.op ≠ .select cs b)
    (hs : sink1 md ops n = true) (hc : Region.chainB md ops n = true) (hn : n < ops.size) (hin : i < n) (hi1 : 1 ≤ i)
    (hL : ∀ listed a, L listed a → ∀ j ∈ Region.ready md ops listed, n ≤ j) (f : Nat) :
    ∀ (listed : Array Bool) (a : Act), HeadInv md ops n listed →
      (∀ j oj, ops[j]? = some oj → j ≠ i → listed.getD j true = false → (∀ e ∈ oj.after, Region.binds md e = true → e.on ≠ i) → oi.apart ops oj = true) →
      i ∈ Region.ready md ops listed → YieldsIn P ops C oi v a →
      headC P ops md C n L f (listed.setIfInBounds i true) (a.put oi.dst v) → headC P ops md C n L (f + 1) listed a := by
  induction f with
  | zero =>
    intro listed a inv _ hr hy H
    refine ⟨List.ne_nil_of_mem hr, fun j hj => ?_⟩
    have hjn : j < n := by
      rcases Nat.lt_or_ge j n with h | h
      · exact h
      · exact absurd hj (tail_waits1 hs hc hn inv _ i rfl hi1 hin (mem_ready.1 hr).1 j h)
    by_cases hji : j = i
    · subst hji; exact ⟨hjn, hy.qOp hi H⟩
    · exact absurd (hL _ _ H j (ready_mono hj hji)) (by omega)
  | succ f ih =>
    intro listed a inv hfree hr hy H
    refine ⟨List.ne_nil_of_mem hr, fun j hj => ?_⟩
    have hjn : j < n := by
      rcases Nat.lt_or_ge j n with h | h
      · exact h
      · exact absurd hj (tail_waits1 hs hc hn inv _ i rfl hi1 hin (mem_ready.1 hr).1 j h)
    refine ⟨hjn, ?_⟩
    by_cases hji : j = i
    · subst hji; exact hy.qOp hi H
    · obtain ⟨hjun, oj, hoj, hall⟩ := mem_ready.1 hj
      have hnot : ∀ e ∈ oj.after, Region.binds md e = true → e.on ≠ i := fun e he hb heq => by
        have h1 := hall e he hb
        rw [heq, getD_both (mem_ready.1 hr).1] at h1
        cases h1
      have h2 := qOp_put hoj (hfree j oj hoj hji hjun hnot) (fun cs b => hsel i oi cs b hi) (fun cs b => hsel j oj cs b hoj) hy (H.2 j (ready_mono hj hji)).2
      refine qOp_mono (fun a' h3 => ih (listed.setIfInBounds j true) a' (inv.set hj hjn) (fun k ok hk hki hun hno => ?_) (ready_mono hr (Ne.symm hji)) h3.1 ?_) h2
      · refine hfree k ok hk hki ?_ hno
        by_cases hjk : j = k
        · subst hjk; exact hjun
        · rw [getD_set_ne true hjk] at hun; exact hun
      · rw [Array.setIfInBounds_comm _ _ hji]
        exact h3.2

theorem headC_lex1 {ops : Array Oper} {n g : Nat} {T : Act → Prop} (hsel : Region.noSelect ops = true) (hs : sink1 md ops n = true) (hc : Region.chainB md ops n = true) (hn : n < ops.size) :
    ∀ (l : List Oper) (k : Nat) (listed : Array Bool) (a : Act), 1 ≤ k → (∀ j, j < l.length → l[j]? = ops[k + j]?) → k + l.length = n → HeadInv md ops n listed →
    Region.lexHead md ops g l.length k listed = true → wpQuiet P ops C T l a →
    headC P ops md C n (fun listed' a' => Region.seqB md ops g n listed' = true ∧ T a') l.length listed a
  | [], k, listed, a, _, _, hk, _, hB, h => by
    obtain rfl : k = n := by simpa using hk
    exact ⟨by simpa [Region.lexHead] using hB, h⟩
  | o :: l, k, listed, a, hk1, hl, hk, inv, hB, h => by
    have h0 : ops[k]? = some o := by simpa using (hl 0 (by simp)).symm
    simp only [List.length_cons, Region.lexHead, Bool.and_eq_true] at hB
    obtain ⟨⟨hr, hf⟩, hB'⟩ := hB
    have hr' : k ∈ Region.ready md ops listed := by simpa using hr
    have hkn : k < n := by simp only [List.length_cons] at hk; omega
    have hst : qOp P ops C k (wpQuiet P ops C T l) a := by unfold qOp; simp only [h0]; exact h
    obtain ⟨v, hy, hK⟩ := yieldsIn_of_qOp h0 hst
    refine headC_first1 h0 (Region.noSelect_spec hsel) hs hc hn hkn hk1 (fun listed' a' hL => seqB_ready hL.1) l.length listed a inv (Region.free_spec h0 hf) hr' hy ?_
    refine headC_lex1 hsel hs hc hn l (k + 1) _ _ (by omega) (fun j hj => ?_) ?_ (inv.set hr' hkn) hB' hK
    · have := hl (j + 1) (by simp; omega)
      simpa [Nat.add_assoc, Nat.add_comm 1 j] using this
    · simp only [List.length_cons] at hk; omega
end

/-- operation 0 a mere copy; operations 1 to n - 1 quiet; the rest forced behind them -/
theorem wp_region_ext_tail1 {P : Program} {id : Nat} {Q : Exit → Act → World → Prop} {a : Act} {w : World} {o0 : Oper} {l : List Oper} (n : Nat) (hm : P.follows .mixedOrders = true) (hB : tail1B .any (o0 :: l).toArray n = true)
    {x : Operand} (hx : o0.op = .move x) (hg : o0.guard = none) (hQ : ∀ c (a' : Act) w, Q (.panic c) (a'.put o0.dst (a.eval x)) w → Q (.panic c) a' w)
    (h : wpQuiet P (o0 :: l).toArray (fun w' => ∃ x : GW w, w' = x.world) (fun a' => ∀ w', Ext w w' → wpList P (o0 :: l).toArray Q ((o0 :: l).drop n) a' w') (l.take (n - 1)) (a.put o0.dst (a.eval x))) : (Code.region id (o0 :: l).toArray true).wp P Q a w := by
  simp only [← gw_all] at h
  simp only [tail1B, Bool.and_eq_true, decide_eq_true_eq] at hB
  obtain ⟨⟨⟨⟨⟨⟨⟨hsel, hn⟩, hs⟩, hc⟩, h1n⟩, h0⟩, hr0⟩, hlex⟩ := hB
  have hn' : n < (o0 :: l).length := by simpa using hn
  have htl : (l.take (n - 1)).length = n - 1 := by simp at hn' ⊢; omega
  have hdl : ((o0 :: l).drop n).length = (o0 :: l).toArray.size - n := by simp
  have haft : o0.after.isEmpty = true := by simpa [hx, hg] using h0
  have inv1 : HeadInv .any (o0 :: l).toArray n ((Array.replicate (o0 :: l).toArray.size false).setIfInBounds 0 true) := by
    refine ⟨by simp, fun j oj hj hl e he _ => ?_, fun t ht hts => ?_⟩
    · by_cases hj0 : j = 0
      · subst hj0
        obtain rfl : o0 = oj := by simpa using hj
        have : o0.after = #[] := by simpa using haft
        rw [this] at he; simp at he
      · rw [getD_set_ne false (Ne.symm hj0), getD_replicate_false] at hl; cases hl
    · rw [getD_set_ne true (by omega)]
      exact getD_in (by simpa using hts) (getD_replicate_false _ _)
  have H := headC_lex1 (md := .any) (g := (o0 :: l).toArray.size - n) hsel hs hc hn (l.take (n - 1)) 1 _ (a.put o0.dst (a.eval x)) (Nat.le_refl _) (fun j hj => by
    have hj' : j < n - 1 := by rw [htl] at hj; exact hj
    rw [Nat.add_comm 1 j]
    simp [hj']) (by rw [htl]; omega) inv1 (by rw [htl]; exact hlex) h
  refine wp_region_any hm ?_
  have := any_of_headC (Q' := Q) (g := (o0 :: l).toArray.size - n) (fun listed a' w' hw' hL => by
    have := wpAny_of_seq (md := .any) (Q' := Q) ((o0 :: l).drop n) n listed a' w' (fun j => by simp [List.getElem?_drop]) (by rw [hdl]; exact hL.1) (hL.2 w' hw')
    rwa [hdl] at this) _ _ _ _ ⟨⟨_, ext_drew w⟩, rfl⟩ H
  rw [htl, show n - 1 + ((o0 :: l).toArray.size - n) = l.length by simp at hn' ⊢; omega] at this
  have hsz : (o0 :: l).toArray.size = l.length + 1 := by simp
  rw [hsz] at this ⊢
  refine wpAny_take (i := 0) (oi := o0) (v := a.eval x) rfl hsel (by rw [hsz] at hr0; exact hr0.2) (by rw [hsz] at hr0; exact hr0.1) hQ (.inl ⟨by simp [Region.wanted, hg], fun w' => BigFrame.run_move x hx w'⟩) this
end Go.Proofs.Ytbejgbflipoboaa
/- append onto a row of the call's own, the source nil, empty or not; slices of sites as rows of cells. (Reads and its laws, the append laws: the guide's lemmas to copy.) -/
namespace Go.Proofs.Ytbejgbflipoboaa
open Go.RowKit
theorem block_of_add (a : Addr) (n : Nat) : (a.add n).block = a.block := by unfold Addr.add; split <;> rfl
theorem add_of_add (a : Addr) (i j : Nat) : (a.add i).add j = a.add (i + j) := by
  unfold Addr.add
  by_cases hi : i = 0 <;> by_cases hj : j = 0 <;> simp [hi, hj, Nat.add_assoc]

def Reads (w : World) (B size : Nat) (A : Option Addr) (n : Nat) (xs : List Value) : Prop :=
  xs.length = n * size ∧ (0 < n → ∃ ad, A = some ad ∧ ad.block < B ∧ ∀ j u, xs[j]? = some u → w.cell? (ad.add j) = some u)

section
variable {w w' : World} {B B' size n : Nat} {A : Option Addr} {xs : List Value}
theorem Reads.none_ : Reads w B size A 0 [] := ⟨by simp, fun h => absurd h (by omega)⟩
theorem Reads.at_ {k : Nat} (h : Reads w B 1 A n xs) (hk : k < n) : ∃ ad u, A = some ad ∧ ad.block < B ∧ xs[k]? = some u ∧ w.cell? (ad.add k) = some u := by
  obtain ⟨ad, e, hb, hc⟩ := h.2 (by omega)
  have hl : k < xs.length := by have := h.1; omega
  exact ⟨ad, xs[k], e, hb, List.getElem?_eq_getElem hl, hc k _ (List.getElem?_eq_getElem hl)⟩
theorem Reads.keep (h : Reads w B size A n xs) (hk : ∀ p : Addr, p.block < B → w'.cell? p = w.cell? p) : Reads w' B size A n xs :=
  ⟨h.1, fun hn => by
    obtain ⟨ad, e, hb, hc⟩ := h.2 hn
    exact ⟨ad, e, hb, fun j u hu => (hk _ (by rw [block_of_add]; exact hb)).trans (hc j u hu)⟩⟩
theorem Reads.more (h : Reads w B size A n xs) (hB : B ≤ B') : Reads w B' size A n xs :=
  ⟨h.1, fun hn => by
    obtain ⟨ad, e, hb, hc⟩ := h.2 hn
    exact ⟨ad, e, by omega, hc⟩⟩
theorem Reads.below (h : Reads w B size A n xs) (hb : Below B w w') : Reads w' B size A n xs := h.keep fun _ hp => hb.cell hp
theorem Reads.drew (h : Reads w B size A n xs) : Reads w.drew B size A n xs := h
theorem Reads.drewN (h : Reads w B size A n xs) (k : Nat) : Reads (w.drewN k) B size A n xs := h
theorem Reads.alloc (h : Reads w B size A n xs) (hB : B ≤ w.heap.size) (o : Obj) : Reads (w.alloc o) B size A n xs := h.keep fun p hp => World.cell?_alloc_lt w o p (by omega)
theorem Reads.setCell (h : Reads w B size A n xs) {p : Addr} (hB : B ≤ p.block) (u : Value) : Reads (w.setCell p u) B size A n xs :=
  h.keep fun q hq => World.cell?_setCell_other w p q u (fun e => by subst e; omega)
theorem Reads.grown (h : Reads w B size A n xs) {row : Option Nat} (hg : w.grownBy w' row) (hB : B ≤ w.heap.size) (hr : ∀ g, row = some g → B ≤ g) : Reads w' B size A n xs :=
  h.keep fun p hp => World.cell?_of_block (hg.block p.block (by omega) (fun e => by have := hr _ e.symm; omega))
theorem Reads.cut (h : Reads w B size A n xs) {k cap : Nat} (hk : k ≤ n) (hc : n ≤ cap) :
    Reads w B size (if cap = k then A else A.map (·.add (k * size))) (n - k) (xs.drop (k * size)) := by
  refine ⟨by rw [List.length_drop, h.1, Nat.sub_mul], fun hn => ?_⟩
  obtain ⟨ad, rfl, hb, hcell⟩ := h.2 (by omega)
  rw [if_neg (by omega)]
  refine ⟨ad.add (k * size), rfl, by rw [block_of_add]; exact hb, fun j u hu => ?_⟩
  rw [add_of_add]
  exact hcell _ u (by rw [← hu, List.getElem?_drop])
theorem Reads.of_own {base : Nat} {e : TypeId} {c : Nat} (h : w.ownsRow base e size (.slice A n c) n xs) : Reads w w.heap.size size A n xs := by
  refine ⟨h.1, fun hn => ?_⟩
  obtain ⟨g, cap, hv, _, hlt⟩ := h.form hn
  have hA : A = some ⟨g, 0, none⟩ := by injection hv
  subst hA
  exact ⟨_, rfl, hlt, h.cells (g := g) rfl⟩
end

section
variable {P : Program} (w : World)

theorem run_append_of_nil (base : Nat) (t ty e : TypeId) (i : TypeInfo) (size : Nat) (ht : P.underlying t = some (.slice e)) (hi : P.info? e = some i)
    (v : Value) (n : Nat) (xs : List Value) (hown : w.ownsRow base e size v n xs) (c : Nat) : (Builtin.append_ #[t, t] ty #[v, .slice none 0 c]).run P w = .ok v w := by
  rcases hown.2 with ⟨rfl, rfl⟩ | ⟨g, cap, cur, rfl, _, _, hnc, _⟩
  · simp [Builtin.append_, run_underlying ht, sizeOf, typeInfo, hi, Builtin.lenOf, Builtin.firstCells]
  · simp [Builtin.append_, run_underlying ht, sizeOf, typeInfo, hi, Builtin.lenOf, Builtin.firstCells, hnc, storeCells]

theorem run_append_any (base : Nat) (t ty e : TypeId) (i : TypeInfo) (z : Value) (size bytes : Nat) (ht : P.underlying t = some (.slice e)) (hi : P.info? e = some i) (hz : i.zero = some z)
    (hsize : i.size = size) (hby : i.bytes = bytes) (hzs : z.cells.size = size) (hsz : 0 < size)
    (v : Value) (n : Nat) (xs : List Value) (hown : w.ownsRow base e size v n xs)
    (B : Nat) (A : Option Addr) (m c : Nat) (news : List Value) (hr : Reads w B size A m news) (h1 : ∀ u ∈ news, u.oneCell' = true)
    (h63 : n + m ≤ maxLen) (hbytes : (n + m) * bytes ≤ 140737488355328) (hbase : base ≤ w.heap.size) :
    ∃ v' w', (Builtin.append_ #[t, t] ty #[v, .slice A m c]).run P w = .ok v' w' ∧ w'.ownsRow base e size v' (n + m) (xs ++ news) ∧ w.grownBy w' v.ownBlock ∧
      (v'.ownBlock = v.ownBlock ∨ v'.ownBlock = some w.heap.size) := by
  rcases A with _ | ad
  · have hm : m = 0 := by
      rcases Nat.eq_zero_or_pos m with h0 | h0
      · exact h0
      · obtain ⟨ad, h, _⟩ := hr.2 h0
        cases h
    subst hm
    have hn : news = [] := List.eq_nil_of_length_eq_zero (by simpa using hr.1)
    subst hn
    exact ⟨v, w, run_append_of_nil w base t ty e i size ht hi v n xs hown c, by simpa using hown, World.grownBy.refl w _, .inl rfl⟩
  · have hcells : ∀ j u, news[j]? = some u → w.cell? (ad.add j) = some u := by
      intro j u hu
      rcases Nat.eq_zero_or_pos m with h0 | h0
      · subst h0
        have hn : news = [] := List.eq_nil_of_length_eq_zero (by simpa using hr.1)
        subst hn
        simp at hu
      · obtain ⟨ad', h, _, hc⟩ := hr.2 h0
        injection h with h
        subst h
        exact hc j u hu
    obtain ⟨v', w', hrun, h2, h3, _, h5⟩ := run_append_own_at (P := P) w base t ty e i z size bytes ht hi hz hsize hby hzs hsz v n xs hown ad m c news hr.1 hcells h1 h63 hbytes hbase
    exact ⟨v', w', hrun, h2, h3, h5⟩

theorem wp_append_any {o : Oper} {a : Act} {K : Act → World → Prop} {Q : Exit → Act → World → Prop} (s x : Operand) (t : TypeId)
    (ho : o.op = .call { callee := .builtin .append, args := #[s, x], argTypes := #[t, t] })
    (base : Nat) (e : TypeId) (i : TypeInfo) (z : Value) (size bytes : Nat) (ht : P.underlying t = some (.slice e)) (hi : P.info? e = some i) (hz : i.zero = some z)
    (hsize : i.size = size) (hby : i.bytes = bytes) (hzs : z.cells.size = size) (hsz : 0 < size)
    (v : Value) (n : Nat) (xs : List Value) (hs : a.eval s = v) (hown : w.ownsRow base e size v n xs)
    (B : Nat) (A : Option Addr) (m c : Nat) (news : List Value) (hx : a.eval x = .slice A m c) (hr : Reads w B size A m news) (h1 : ∀ u ∈ news, u.oneCell' = true)
    (h63 : n + m ≤ maxLen) (hbytes : (n + m) * bytes ≤ 140737488355328) (hbase : base ≤ w.heap.size)
    (h : ∀ v' w', w'.ownsRow base e size v' (n + m) (xs ++ news) → w.grownBy w' v.ownBlock → (v'.ownBlock = v.ownBlock ∨ v'.ownBlock = some w.heap.size) → K (a.put o.dst v') w') : o.wp P a w K Q := by
  obtain ⟨v', w', hrun, h2, h3, h4⟩ := run_append_any (P := P) w base t o.type e i z size bytes ht hi hz hsize hby hzs hsz v n xs hown B A m c news hr h1 h63 hbytes hbase
  unfold Oper.wp execOp
  simp only [ho, resolve, invoke, builtin, Sem.run_bind, Sem.run_pure, Result.andThen_ok, List.map_toArray, List.map_cons, List.map_nil, hs, hx, hrun]
  exact h v' w' h2 h3 h4

theorem wpList_append_any {ops : Array Oper} {rest : List Oper} {o : Oper} {a : Act} {Q : Exit → Act → World → Prop} (hgd : o.guard = none) (s x : Operand) (t : TypeId)
    (ho : o.op = .call { callee := .builtin .append, args := #[s, x], argTypes := #[t, t] })
    (base : Nat) (e : TypeId) (i : TypeInfo) (z : Value) (size bytes : Nat) (ht : P.underlying t = some (.slice e)) (hi : P.info? e = some i) (hz : i.zero = some z)
    (hsize : i.size = size) (hby : i.bytes = bytes) (hzs : z.cells.size = size) (hsz : 0 < size)
    (v : Value) (n : Nat) (xs : List Value) (hs : a.eval s = v) (hown : w.ownsRow base e size v n xs)
    (B : Nat) (A : Option Addr) (m c : Nat) (news : List Value) (hx : a.eval x = .slice A m c) (hr : Reads w B size A m news) (h1 : ∀ u ∈ news, u.oneCell' = true)
    (h63 : n + m ≤ maxLen) (hbytes : (n + m) * bytes ≤ 140737488355328) (hbase : base ≤ w.heap.size)
    (h : ∀ v' w', w'.ownsRow base e size v' (n + m) (xs ++ news) → w.grownBy w' v.ownBlock → (v'.ownBlock = v.ownBlock ∨ v'.ownBlock = some w.heap.size) → wpList P ops Q rest (a.put o.dst v') w') : wpList P ops Q (o :: rest) a w :=
  wpList_plain hgd fun _ hK => wp_append_any w s x t ho base e i z size bytes ht hi hz hsize hby hzs hsz v n xs hs hown B A m c news hx hr h1 h63 hbytes hbase fun v' w' h2 h3 h4 => hK _ _ (h v' w' h2 h3 h4)

theorem step_append_any {ops : Array Oper} {o : Oper} {a : Act} {K : Act → World → Prop} {Q : Exit → Act → World → Prop} {E : Prop} (hgd : o.guard = none) (s x : Operand) (t : TypeId)
    (ho : o.op = .call { callee := .builtin .append, args := #[s, x], argTypes := #[t, t] })
    (base : Nat) (e : TypeId) (i : TypeInfo) (z : Value) (size bytes : Nat) (ht : P.underlying t = some (.slice e)) (hi : P.info? e = some i) (hz : i.zero = some z)
    (hsize : i.size = size) (hby : i.bytes = bytes) (hzs : z.cells.size = size) (hsz : 0 < size)
    (v : Value) (n : Nat) (xs : List Value) (hs : a.eval s = v) (hown : w.ownsRow base e size v n xs)
    (B : Nat) (A : Option Addr) (m c : Nat) (news : List Value) (hx : a.eval x = .slice A m c) (hr : Reads w B size A m news) (h1 : ∀ u ∈ news, u.oneCell' = true)
    (h63 : n + m ≤ maxLen) (hbytes : (n + m) * bytes ≤ 140737488355328) (hbase : base ≤ w.heap.size)
    (h : ∀ v' w', w'.ownsRow base e size v' (n + m) (xs ++ news) → w.grownBy w' v.ownBlock → (v'.ownBlock = v.ownBlock ∨ v'.ownBlock = some w.heap.size) → K (a.put o.dst v') w') :
    if Region.wanted o (yielded ops a.tmps) = true then Oper.wp P o a w K Q else E := by
  have hw : Region.wanted o (yielded ops a.tmps) = true := by simp [Region.wanted, hgd]
  rw [if_pos hw]
  exact wp_append_any w s x t ho base e i z size bytes ht hi hz hsize hby hzs hsz v n xs hs hown B A m c news hx hr h1 h63 hbytes hbase h
end

section
open Go.ChangeShapes Go.WideShapes Go.ChangeAt Go.RowKit Go.Deep
section
variable {H : Type} {enc : TypeId × Value → H} {P : Program} {w : World} {base : Nat} {spare : Nat → Bool} {held : Bool}
theorem open_slice_fields {t e : TypeId} {fs : Array Field} {fuel : Nat} {cs : List Value} {x : DataW H × List MemPlace} (ht : P.underlying t = some (.slice e)) (he : P.underlying e = some (.struct fs))
    (hone : oneCellFields P fs = true) (hC : P.cellsOf e = fs.size) (h : DataW.trod enc P w base spare held fuel t cs = some x) :
    (cs = [.slice none 0 0] ∧ x = (.nil, [])) ∨
    ∃ (a : Addr) (len cap m : Nat) (D : Nat → DataW H) (Pl : Nat → List MemPlace), cs = [.slice (some a) len cap] ∧ base ≤ a.block ∧ len ≤ cap ∧ cap ≤ maxLen ∧ m = (if spare a.block then cap else len) ∧
      x = (.slice ((List.range len).map D) ((List.range (m - len)).map fun j => D (len + j)), MemPlace.row a (m * fs.size) ++ (List.range m).flatMap Pl) ∧
      ∀ i, i < m → ∃ (ys : List (DataW H × List MemPlace)) (n : Nat), D i = .agg (ys.map (·.1)) ∧ Pl i = ys.flatMap (·.2) ∧ ys.length = fs.size ∧
        ∀ (j : Nat) (f : Field), fs[j]? = some f → ∃ (v : Value) (y : DataW H × List MemPlace), w.cell? (a.add (i * fs.size + j)) = some v ∧ ys[j]? = some y ∧ DataW.trod enc P w base spare held n f.type [v] = some y := by
  rcases open_slice ht h with h0 | ⟨a, len, cap, m, n, D, Pl, hcs, hb, hl, hm, hmm, hx, hi⟩
  · exact .inl h0
  · refine .inr ⟨a, len, cap, m, D, Pl, hcs, hb, hl, hm, hmm, by rw [hC] at hx; exact hx, fun i him => ?_⟩
    obtain ⟨cs', hc, ht'⟩ := hi i him
    rw [hC] at hc
    obtain ⟨ys, n', hn', hy, hlen, hyl, hf⟩ := DataW.trod_struct he ht'
    obtain ⟨_, hcl, hat⟩ := World.cells?_some hc
    simp only [Prod.mk.injEq] at hy
    refine ⟨ys, n', hy.1, hy.2, hyl, fun j f hj => ?_⟩
    obtain ⟨ho, hk⟩ := hone_of hone j f hj
    have hjl : j < fs.size := (Array.getElem?_eq_some_iff.1 hj).1
    have hcell := hat j hjl
    have hv : cs'[j]? = some (cs'[j]'(by omega)) := List.getElem?_eq_getElem (by omega)
    have h1 := hf j f hj
    rw [ho, hk] at h1
    have hone' : (cs'.drop j).take 1 = [cs'[j]'(by omega)] := by
      rw [List.drop_eq_getElem_cons (by omega)]
      rfl
    rw [hone'] at h1
    have hys : ys[j]? = some (ys[j]'(by omega)) := List.getElem?_eq_getElem (by omega)
    refine ⟨_, _, ?_, hys, h1.trans hys⟩
    rw [← Go.Deep.add_add, hcell, hv]

/-- An address at which a cell lies has no spot; its block is there. -/
theorem at_cell {w : World} {a : Addr} {k : Nat} {v : Value} (h : w.cell? (a.add k) = some v) : ∃ b off, a.add k = ⟨b, off, none⟩ ∧ a.block = b ∧ b < w.heap.size := by
  have hs := World.cell?_spot h
  have hb : (a.add k).block = a.block := by unfold Addr.add; split <;> rfl
  generalize a.add k = c at *
  obtain ⟨b, o, s⟩ := c
  obtain rfl : s = none := hs
  refine ⟨b, o, rfl, hb.symm, ?_⟩
  rcases Nat.lt_or_ge b w.heap.size with h' | h'
  · exact h'
  · simp [World.cell?, Array.getElem?_eq_none h'] at h

theorem spot_none {w : World} {a : Addr} {v : Value} (h : w.cell? (a.add 0) = some v) : ∃ b off, a = ⟨b, off, none⟩ ∧ b < w.heap.size := by
  have e : a.add 0 = a := by simp [Addr.add]
  obtain ⟨b, o, h1, h2, h3⟩ := at_cell h
  exact ⟨b, o, by rw [← e, h1], h3⟩

theorem add_at (b off k : Nat) : Addr.add ⟨b, off, none⟩ k = ⟨b, off + k, none⟩ := by
  unfold Addr.add
  split
  · rename_i h; subst h; rfl
  · rfl

theorem read_ints {t e : TypeId} {fuel : Nat} {a : Option Addr} {len cap : Nat} {x : DataW H × List MemPlace} (ht : P.underlying t = some (.slice e)) (he : P.underlying e = some (.int .i64)) (hc : P.cellsOf e = 1)
    (h : DataW.trod enc P w base spare held fuel t [.slice a len cap] = some x) : ∃ l : List Int, l.length = len ∧ Ints w a l := by
  rcases open_ints ht he hc h with ⟨hcs, _⟩ | ⟨ad, l', c', zs, hcs, _, hl, _, hz, _, hcell, _⟩
  · simp at hcs
    obtain ⟨rfl, rfl, rfl⟩ := hcs
    exact ⟨[], rfl, fun j hj => by simp at hj⟩
  · simp at hcs
    obtain ⟨rfl, rfl, rfl⟩ := hcs
    have hlz : len ≤ zs.length := by rw [hz]; split <;> omega
    refine ⟨zs.take len, by simp; omega, fun j hj => ?_⟩
    have hj' : j < len := by simp at hj; omega
    have h0 := hcell 0 (by omega)
    obtain ⟨b, off, rfl, hb⟩ := spot_none h0
    refine ⟨b, off, rfl, hb, ?_⟩
    have := hcell j (by omega)
    rw [add_at] at this
    rw [this]
    have hjz : j < zs.length := by omega
    simp [hj', hjz]

end
end
theorem reads_ints {w : World} {a : Option Addr} {l : List Int} (h : Ints w a l) : Reads w w.heap.size 1 a l.length (l.map (.int .i64)) := by
  refine ⟨by simp, fun h0 => ?_⟩
  obtain ⟨b, off, rfl, hb, _⟩ := h 0 h0
  refine ⟨_, rfl, hb, fun j u hu => ?_⟩
  rw [add_at]
  have hj : j < l.length := by
    have := (List.getElem?_eq_some_iff.1 hu).1
    simpa using this
  obtain ⟨b', off', he, _, c0⟩ := h j hj
  simp only [Option.some.injEq, Addr.mk.injEq] at he
  obtain ⟨rfl, rfl, -⟩ := he
  rw [c0, ← hu]
  simp [hj]

/-- The ints that a slice value owns, read. -/
theorem ints_of_row {w : World} {base n : Nat} {v : Value} {T : TypeId} {l : List Int} (h : w.ownsRow base T 1 v n (l.map (.int .i64))) : ∃ a c, v = .slice a l.length c ∧ Ints w a l := by
  have hn : l.length = n := by have := h.1; simpa using this
  rcases h.2 with ⟨rfl, h0⟩ | ⟨g, cap, cur, rfl, hb, hg, h1, h2, h3, h4⟩
  · exact ⟨none, 0, by rw [hn, h0], fun j hj => by omega⟩
  · refine ⟨_, cap, by rw [hn], fun j hj => ⟨g, 0, rfl, (Array.getElem?_eq_some_iff.1 hg).1, ?_⟩⟩
    have hc := h.cells (g := g) rfl j (.int .i64 (l[j]?.getD 0)) (by simp [hj])
    have e : Addr.add ⟨g, 0, none⟩ j = ⟨g, 0 + j, none⟩ := by
      unfold Addr.add
      split
      · rename_i h; simp_all
      · rfl
    rw [e] at hc
    exact hc

end Go.Proofs.Ytbejgbflipoboaa
/- Flat records that a slice holds, read as lists; slices of slices. Printed by wip/gen/genrec.py. -/
namespace Go.Proofs.Ytbejgbflipoboaa
open Go.ChangeShapes Go.WideShapes Go.ChangeAt Go.RowKit Go.Deep

structure Road where
  fr : Int
  to : Int
  ln : Int
  wd : Int
  deriving DecidableEq, Inhabited
def Roads (w : World) (a : Option Addr) (l : List Road) : Prop :=
  ∀ j, (hj : j < l.length) → ∃ b off, a = some ⟨b, off, none⟩ ∧ b < w.heap.size ∧ w.cell? ⟨b, off + j * 4, none⟩ = some (.int .i64 l[j].fr) ∧ w.cell? ⟨b, off + j * 4 + 1, none⟩ = some (.int .i64 l[j].to) ∧ w.cell? ⟨b, off + j * 4 + 2, none⟩ = some (.int .i64 l[j].ln) ∧ w.cell? ⟨b, off + j * 4 + 3, none⟩ = some (.int .i64 l[j].wd)
theorem Roads.ext {w w' : World} {a : Option Addr} {l : List Road} (h : Roads w a l) (hE : Ext w w') : Roads w' a l := fun j hj => by
  obtain ⟨b, off, ha, hb, h1, h2, h3, h4⟩ := h j hj
  exact ⟨b, off, ha, Nat.lt_of_lt_of_le hb hE.size, (hE.cell' hb).trans h1, (hE.cell' hb).trans h2, (hE.cell' hb).trans h3, (hE.cell' hb).trans h4⟩
def roadV (l : List Road) : List Value := l.flatMap fun s => [.int .i64 s.fr, .int .i64 s.to, .int .i64 s.ln, .int .i64 s.wd]
theorem roadV_length (l : List Road) : (roadV l).length = l.length * 4 := by
  induction l with
  | nil => rfl
  | cons s l ih => simp only [roadV, List.flatMap_cons, List.length_append, List.length_cons, List.length_nil] at ih ⊢; omega
theorem roadV_append (l k : List Road) : roadV (l ++ k) = roadV l ++ roadV k := by simp [roadV]
theorem roadV_one (s : Road) : roadV [s] = [.int .i64 s.fr, .int .i64 s.to, .int .i64 s.ln, .int .i64 s.wd] := by simp [roadV]
theorem roadV_at : ∀ (l : List Road) (i : Nat) (hi : i < l.length), (roadV l)[i * 4]? = some (.int .i64 l[i].fr) ∧ (roadV l)[i * 4 + 1]? = some (.int .i64 l[i].to) ∧ (roadV l)[i * 4 + 2]? = some (.int .i64 l[i].ln) ∧ (roadV l)[i * 4 + 3]? = some (.int .i64 l[i].wd)
  | s :: l, 0, _ => by simp [roadV]
  | s :: l, i + 1, hi => by
    have h := roadV_at l i (by simpa using hi)
    have e : roadV (s :: l) = [.int .i64 s.fr, .int .i64 s.to, .int .i64 s.ln, .int .i64 s.wd] ++ roadV l := by simp [roadV]
    rw [e]
    refine ⟨?_, ?_, ?_, ?_⟩
    · rw [List.getElem?_append_right (by simp; omega), show (i + 1) * 4 - [Value.int .i64 s.fr, .int .i64 s.to, .int .i64 s.ln, .int .i64 s.wd].length = i * 4 by simp; omega]; exact h.1
    · rw [List.getElem?_append_right (by simp; omega), show (i + 1) * 4 + 1 - [Value.int .i64 s.fr, .int .i64 s.to, .int .i64 s.ln, .int .i64 s.wd].length = i * 4 + 1 by simp; omega]; exact h.2.1
    · rw [List.getElem?_append_right (by simp; omega), show (i + 1) * 4 + 2 - [Value.int .i64 s.fr, .int .i64 s.to, .int .i64 s.ln, .int .i64 s.wd].length = i * 4 + 2 by simp; omega]; exact h.2.2.1
    · rw [List.getElem?_append_right (by simp; omega), show (i + 1) * 4 + 3 - [Value.int .i64 s.fr, .int .i64 s.to, .int .i64 s.ln, .int .i64 s.wd].length = i * 4 + 3 by simp; omega]; exact h.2.2.2
theorem roadV_one_cell (l : List Road) : ∀ u ∈ roadV l, u.oneCell' = true := by
  intro u hu
  simp only [roadV, List.mem_flatMap] at hu
  obtain ⟨s, _, hs⟩ := hu
  simp at hs
  rcases hs with rfl | rfl | rfl | rfl <;> rfl
theorem reads_roads {w : World} {a : Option Addr} {l : List Road} (h : Roads w a l) : Reads w w.heap.size 4 a l.length (roadV l) := by
  refine ⟨roadV_length l, fun h0 => ?_⟩
  obtain ⟨b, off, rfl, hb, _⟩ := h 0 h0
  refine ⟨_, rfl, hb, fun j u hu => ?_⟩
  rw [add_at]
  have hj : j < l.length * 4 := by
    have := (List.getElem?_eq_some_iff.1 hu).1
    rwa [roadV_length] at this
  have hi : j / 4 < l.length := by omega
  obtain ⟨b', off', he, _, c0, c1, c2, c3⟩ := h (j / 4) hi
  simp only [Option.some.injEq, Addr.mk.injEq] at he
  obtain ⟨rfl, rfl, -⟩ := he
  obtain ⟨v0, v1, v2, v3⟩ := roadV_at l (j / 4) hi
  have h3 : j % 4 = 0 ∨ j % 4 = 1 ∨ j % 4 = 2 ∨ j % 4 = 3 := by omega
  rcases h3 with h3 | h3 | h3 | h3
  · have e : j = j / 4 * 4 := by omega
    rw [e] at hu ⊢
    rw [v0] at hu
    rw [← hu]; exact c0
  · have e : j = j / 4 * 4 + 1 := by omega
    rw [e] at hu ⊢
    rw [v1] at hu
    rw [← hu]; exact c1
  · have e : j = j / 4 * 4 + 2 := by omega
    rw [e] at hu ⊢
    rw [v2] at hu
    rw [← hu]; exact c2
  · have e : j = j / 4 * 4 + 3 := by omega
    rw [e] at hu ⊢
    rw [v3] at hu
    rw [← hu]; exact c3
theorem roads_of_row {w : World} {base n : Nat} {v : Value} {T : TypeId} {l : List Road} (h : w.ownsRow base T 4 v n (roadV l)) : ∃ a c, v = .slice a l.length c ∧ Roads w a l := by
  have hn : l.length = n := by have := h.1; rw [roadV_length] at this; omega
  rcases h.2 with ⟨rfl, h0⟩ | ⟨g, cap, cur, rfl, hb, hg, h1, h2, h3, h4⟩
  · exact ⟨none, 0, by rw [hn, h0], fun j hj => by omega⟩
  · refine ⟨_, cap, by rw [hn], fun j hj => ⟨g, 0, rfl, (Array.getElem?_eq_some_iff.1 hg).1, ?_⟩⟩
    obtain ⟨v0, v1, v2, v3⟩ := roadV_at l j hj
    have c0 := h.cells (g := g) rfl _ _ v0
    have c1 := h.cells (g := g) rfl _ _ v1
    have c2 := h.cells (g := g) rfl _ _ v2
    have c3 := h.cells (g := g) rfl _ _ v3
    rw [add_at] at c0 c1 c2 c3
    exact ⟨c0, by simpa [Nat.add_assoc] using c1, by simpa [Nat.add_assoc] using c2, by simpa [Nat.add_assoc] using c3⟩
theorem roads_new1 (w : World) (s : Road) (T : TypeId) : Roads (w.alloc (.cells #[.int .i64 s.fr, .int .i64 s.to, .int .i64 s.ln, .int .i64 s.wd] T)) (some ⟨w.heap.size, 0, none⟩) [s] := by
  intro j hj
  refine ⟨_, _, rfl, by simp, ?_⟩
  match j, hj with
  | 0, _ => simp
theorem roadV_set0 : ∀ (l : List Road) (k : Nat) (hk : k < l.length) (n : Int), (roadV l).set (k * 4) (.int .i64 n) = roadV (l.set k { l[k] with fr := n })
  | s :: l, 0, _, n => by simp [roadV]
  | s :: l, k + 1, hk, n => by
    have h := roadV_set0 l k (by simpa using hk) n
    have e : ∀ (t : Road) (m : List Road), roadV (t :: m) = [.int .i64 t.fr, .int .i64 t.to, .int .i64 t.ln, .int .i64 t.wd] ++ roadV m := fun t m => by simp [roadV]
    rw [List.set_cons_succ, e, e, List.set_append_right _ _ (by simp; omega), show (k + 1) * 4 - [Value.int .i64 s.fr, .int .i64 s.to, .int .i64 s.ln, .int .i64 s.wd].length = k * 4 by simp; omega, h]
    rfl
theorem roadV_set1 : ∀ (l : List Road) (k : Nat) (hk : k < l.length) (n : Int), (roadV l).set (k * 4 + 1) (.int .i64 n) = roadV (l.set k { l[k] with to := n })
  | s :: l, 0, _, n => by simp [roadV]
  | s :: l, k + 1, hk, n => by
    have h := roadV_set1 l k (by simpa using hk) n
    have e : ∀ (t : Road) (m : List Road), roadV (t :: m) = [.int .i64 t.fr, .int .i64 t.to, .int .i64 t.ln, .int .i64 t.wd] ++ roadV m := fun t m => by simp [roadV]
    rw [List.set_cons_succ, e, e, List.set_append_right _ _ (by simp; omega), show (k + 1) * 4 + 1 - [Value.int .i64 s.fr, .int .i64 s.to, .int .i64 s.ln, .int .i64 s.wd].length = k * 4 + 1 by simp; omega, h]
    rfl
theorem roadV_set2 : ∀ (l : List Road) (k : Nat) (hk : k < l.length) (n : Int), (roadV l).set (k * 4 + 2) (.int .i64 n) = roadV (l.set k { l[k] with ln := n })
  | s :: l, 0, _, n => by simp [roadV]
  | s :: l, k + 1, hk, n => by
    have h := roadV_set2 l k (by simpa using hk) n
    have e : ∀ (t : Road) (m : List Road), roadV (t :: m) = [.int .i64 t.fr, .int .i64 t.to, .int .i64 t.ln, .int .i64 t.wd] ++ roadV m := fun t m => by simp [roadV]
    rw [List.set_cons_succ, e, e, List.set_append_right _ _ (by simp; omega), show (k + 1) * 4 + 2 - [Value.int .i64 s.fr, .int .i64 s.to, .int .i64 s.ln, .int .i64 s.wd].length = k * 4 + 2 by simp; omega, h]
    rfl
theorem roadV_set3 : ∀ (l : List Road) (k : Nat) (hk : k < l.length) (n : Int), (roadV l).set (k * 4 + 3) (.int .i64 n) = roadV (l.set k { l[k] with wd := n })
  | s :: l, 0, _, n => by simp [roadV]
  | s :: l, k + 1, hk, n => by
    have h := roadV_set3 l k (by simpa using hk) n
    have e : ∀ (t : Road) (m : List Road), roadV (t :: m) = [.int .i64 t.fr, .int .i64 t.to, .int .i64 t.ln, .int .i64 t.wd] ++ roadV m := fun t m => by simp [roadV]
    rw [List.set_cons_succ, e, e, List.set_append_right _ _ (by simp; omega), show (k + 1) * 4 + 3 - [Value.int .i64 s.fr, .int .i64 s.to, .int .i64 s.ln, .int .i64 s.wd].length = k * 4 + 3 by simp; omega, h]
    rfl
section
variable {H : Type} {enc : TypeId × Value → H} {P : Program} {w : World} {base : Nat} {spare : Nat → Bool} {held : Bool}
theorem read_roads {t e ti : TypeId} {f0 f1 f2 f3 : Field} {fuel : Nat} {a : Option Addr} {len cap : Nat} {x : DataW H × List MemPlace} (ht : P.underlying t = some (.slice e)) (he : P.underlying e = some (.struct #[f0, f1, f2, f3]))
    (hone : oneCellFields P #[f0, f1, f2, f3] = true) (hC : P.cellsOf e = 4) (hi : P.underlying ti = some (.int .i64)) (h0 : f0.type = ti) (h1 : f1.type = ti) (h2 : f2.type = ti) (h3 : f3.type = ti)
    (h : DataW.trod enc P w base spare held fuel t [.slice a len cap] = some x) : ∃ l : List Road, l.length = len ∧ Roads w a l := by
  rcases open_slice_fields ht he hone hC h with ⟨hcs, _⟩ | ⟨ad, l', c', m, D, Pl, hcs, _, hl, _, hm, _, hf⟩
  · simp at hcs
    obtain ⟨rfl, rfl, rfl⟩ := hcs
    exact ⟨[], rfl, fun j hj => by simp at hj⟩
  · simp at hcs
    obtain ⟨rfl, rfl, rfl⟩ := hcs
    have hlm : len ≤ m := by rw [hm]; split <;> omega
    have each : ∀ i, i < len → ∃ s : Road, w.cell? (ad.add (i * 4 + 0)) = some (.int .i64 s.fr) ∧ w.cell? (ad.add (i * 4 + 1)) = some (.int .i64 s.to) ∧ w.cell? (ad.add (i * 4 + 2)) = some (.int .i64 s.ln) ∧ w.cell? (ad.add (i * 4 + 3)) = some (.int .i64 s.wd) := by
      intro i hi'
      obtain ⟨ys, n, _, _, _, hg⟩ := hf i (by omega)
      obtain ⟨v0, y0, c0, _, t0⟩ := hg 0 f0 rfl
      obtain ⟨v1, y1, c1, _, t1⟩ := hg 1 f1 rfl
      obtain ⟨v2, y2, c2, _, t2⟩ := hg 2 f2 rfl
      obtain ⟨v3, y3, c3, _, t3⟩ := hg 3 f3 rfl
      rw [h0] at t0
      obtain ⟨n0, e0, _⟩ := DataW.trod_int hi t0
      rw [h1] at t1
      obtain ⟨n1, e1, _⟩ := DataW.trod_int hi t1
      rw [h2] at t2
      obtain ⟨n2, e2, _⟩ := DataW.trod_int hi t2
      rw [h3] at t3
      obtain ⟨n3, e3, _⟩ := DataW.trod_int hi t3
      simp at e0 e1 e2 e3
      subst e0 e1 e2 e3
      exact ⟨⟨n0, n1, n2, n3⟩, c0, c1, c2, c3⟩
    let S : Nat → Road := fun i => if hi' : i < len then Classical.choose (each i hi') else default
    refine ⟨(List.range len).map S, by simp, fun j hj => ?_⟩
    have hj' : j < len := by simpa using hj
    have hS : S j = Classical.choose (each j hj') := by simp [S, hj']
    obtain ⟨k0, k1, k2, k3⟩ := Classical.choose_spec (each j hj')
    rw [← hS] at k0 k1 k2 k3
    obtain ⟨sz, z0, _⟩ := each 0 (by omega)
    have z1 : w.cell? (ad.add 0) = some (.int .i64 sz.fr) := by simpa using z0
    obtain ⟨b, off, rfl, hb⟩ := spot_none z1
    rw [add_at] at k0 k1 k2 k3
    refine ⟨b, off, rfl, hb, ?_⟩
    simp only [List.getElem_map, List.getElem_range]
    exact ⟨by simpa using k0, by simpa [Nat.add_assoc] using k1, by simpa [Nat.add_assoc] using k2, by simpa [Nat.add_assoc] using k3⟩
end

end Go.Proofs.Ytbejgbflipoboaa
/- A block whose cells are all known. -/
namespace Go.Proofs.Ytbejgbflipoboaa
open Go.RowKit

/-- block B holds just the cells cs -/
def BlkC (W : World) (B : Nat) (cs : Array Value) (T : TypeId) : Prop := W.heap[B]? = some (.cells cs T (0, 0))
section
variable {W X Y : World} {B : Nat} {T : TypeId} {cs : Array Value}
theorem BlkC.new (W : World) (cs : Array Value) (T : TypeId) : BlkC (W.alloc (.cells cs T)) W.heap.size cs T := World.alloc_heap_new W _
theorem BlkC.lt (h : BlkC X B cs T) : B < X.heap.size := (Array.getElem?_eq_some_iff.1 h).1
theorem BlkC.cell (h : BlkC X B cs T) (i : Nat) : X.cell? ⟨B, i, none⟩ = cs[i]? := by simp [World.cell?, show X.heap[B]? = _ from h]
theorem BlkC.cellv (h : BlkC X B cs T) (i : Nat) {v : Value} (hv : cs[i]? = some v) : X.cell? ⟨B, i, none⟩ = some v := (h.cell i).trans hv
theorem BlkC.frozen (h : BlkC X B cs T) (j : Nat) : X.frozen? ⟨B, j, none⟩ = false := by simp [World.frozen?, show X.heap[B]? = _ from h]
theorem BlkC.set (h : BlkC X B cs T) (i : Nat) (u : Value) : BlkC (X.setCell ⟨B, i, none⟩ u) B (cs.setIfInBounds i u) T := by
  obtain ⟨hlt, hk⟩ := Array.getElem?_eq_some_iff.1 (show X.heap[B]? = some (.cells cs T (0, 0)) from h)
  show (X.heap.modify B _)[B]? = _
  rw [Array.getElem?_eq_getElem (by rw [Array.size_modify]; exact hlt), Array.getElem_modify_self, hk]
  rfl
theorem BlkC.other (h : BlkC X B cs T) {B' : Nat} (hne : B ≠ B') (i : Nat) (u : Value) : BlkC (X.setCell ⟨B', i, none⟩ u) B cs T := (Below.heap_setCell X ⟨B', i, none⟩ u B hne).trans h
theorem BlkC.ext (h : BlkC X B cs T) (hE : Ext X Y) : BlkC Y B cs T := (hE.block B h.lt).trans h
theorem BlkC.alloc (h : BlkC X B cs T) (o : Obj) : BlkC (X.alloc o) B cs T := h.ext (ext_alloc X o)
theorem BlkC.grown (h : BlkC X B cs T) {row : Option Nat} (hg : X.grownBy Y row) (hne : some B ≠ row) : BlkC Y B cs T := (hg.block B h.lt hne).trans h
theorem BlkC.appended (h : BlkC X B cs T) {v : Value} {tmp : Obj} (hg : (X.alloc tmp).grownBy Y v.ownBlock) (hne : some B ≠ v.ownBlock) : BlkC Y B cs T := (h.alloc tmp).grown hg hne
theorem row_notnew {base : Nat} {e : TypeId} {size : Nat} {v : Value} {k : Nat} {xs : List Value} (h : X.ownsRow base e size v k xs) : some X.heap.size ≠ v.ownBlock := by
  rcases h.2 with ⟨rfl, _⟩ | ⟨g, cap, cur, rfl, hb, hg, _⟩
  · simp [Value.ownBlock]
  · intro e'
    have hlt := (Array.getElem?_eq_some_iff.1 hg).1
    have : X.heap.size = g := by simpa [Value.ownBlock] using e'
    omega
/-- behind 'out = append(out, ..)': the row's block is the old one or a new one -/
theorem far_keeps {v v' : Value} {B : Nat} (h : some B ≠ v.ownBlock) (hB : B < X.heap.size) (hat : v'.ownBlock = v.ownBlock ∨ v'.ownBlock = some X.heap.size) : some B ≠ v'.ownBlock := by
  rcases hat with e | e
  · rw [e]; exact h
  · rw [e]; intro e2; simp at e2; omega
theorem row_set_other {base : Nat} {e : TypeId} {size : Nat} {v : Value} {k : Nat} {xs : List Value} (h : X.ownsRow base e size v k xs) {B : Nat} (hne : some B ≠ v.ownBlock) (i : Nat) (u : Value) : (X.setCell ⟨B, i, none⟩ u).ownsRow base e size v k xs := by
  refine ⟨h.1, ?_⟩
  rcases h.2 with h0 | ⟨g, cap, cur, rfl, hb, hg, h1, h2, h3⟩
  · exact .inl h0
  · refine .inr ⟨g, cap, cur, rfl, hb, ?_, h1, h2, h3⟩
    have hn : g ≠ B := fun e' => hne (by rw [e']; rfl)
    exact (Below.heap_setCell X ⟨B, i, none⟩ u g hn).trans hg
/-- what a call hands back that makes a list -/
def RetI (L : List Int) (w : World) (e : Ending) (w' : World) : Prop := ∃ a c, e = .returned (.slice a L.length c) ∧ Ints w' a L ∧ Ext w w'
/-- .. a list and an error -/
def RetInts (L : List Int) (err : Int) (w : World) (e : Ending) (w' : World) : Prop := ∃ a c, e = .returned (.tuple #[.slice a L.length c, .int .i64 err]) ∧ Ints w' a L ∧ Ext w w'
theorem retInts_nil {w w' : World} {e : Int} (hE : Ext w w') : RetInts [] e w (.returned (.tuple #[.slice none 0 0, .int .i64 e])) w' := ⟨none, 0, rfl, fun j hj => by simp at hj, hE⟩
theorem ints_new2 (w : World) (x y : Int) (T : TypeId) (B : Nat) (hB : w.heap.size = B) : Ints (w.alloc (.cells #[.int .i64 x, .int .i64 y] T)) (some ⟨B, 0, none⟩) [x, y] := by
  subst hB
  intro j hj
  refine ⟨_, _, rfl, by simp, ?_⟩
  match j, hj with
  | 0, _ => simp
  | 1, _ => simp
theorem ints_new1 (w : World) (x : Int) (T : TypeId) (B : Nat) (hB : w.heap.size = B) : Ints (w.alloc (.cells #[.int .i64 x] T)) (some ⟨B, 0, none⟩) [x] := by
  subst hB
  intro j hj
  refine ⟨_, _, rfl, by simp, ?_⟩
  match j, hj with
  | 0, _ => simp
theorem row_empty (w : World) (e : TypeId) (size : Nat) : (w.alloc (.cells #[] e)).ownsRow w.heap.size e size (.slice (some ⟨w.heap.size, 0, none⟩) 0 0) 0 [] :=
  ⟨by simp, .inr ⟨w.heap.size, 0, #[], rfl, Nat.le_refl _, heap_alloc_new w _, Nat.le_refl _, by unfold maxLen; omega, by simp, by simp⟩⟩
theorem ext_grow {w X Y : World} {base : Nat} {e : TypeId} {size k : Nat} {v : Value} {xs : List Value} (h : Ext w X) (hrow : X.ownsRow base e size v k xs) (hb : w.heap.size ≤ base) (hgrow : X.grownBy Y v.ownBlock) : Ext w Y :=
  h.grown hgrow h.size fun j ej => by
    rcases hrow.2 with ⟨rfl, _⟩ | ⟨g, cap, cur, rfl, hg, _, _⟩
    · simp [Value.ownBlock] at ej
    · obtain rfl : g = j := by simpa [Value.ownBlock] using ej
      exact Nat.le_trans hb hg
theorem ownsRow_form {W : World} {base : Nat} {e : TypeId} {size : Nat} {v : Value} {k : Nat} {xs : List Value} (h : W.ownsRow base e size v k xs) (hk : 0 < k) : ∃ g cap, v = .slice (some ⟨g, 0, none⟩) k cap ∧ base ≤ g ∧ g < W.heap.size := by
  rcases h.2 with ⟨_, h0⟩ | ⟨g, cap, _, rfl, hb, hg, _⟩
  · omega
  · exact ⟨g, cap, rfl, hb, (Array.getElem?_eq_some_iff.1 hg).1⟩
theorem slice_form {W : World} {base : Nat} {e : TypeId} {size : Nat} {v : Value} {k : Nat} {xs : List Value} (h : W.ownsRow base e size v k xs) : ∃ a cap, v = .slice a k cap := by
  rcases h.2 with ⟨rfl, rfl⟩ | ⟨g, cap, _, rfl, hb, hg, _⟩
  · exact ⟨none, 0, rfl⟩
  · exact ⟨_, cap, rfl⟩
end
end Go.Proofs.Ytbejgbflipoboaa
/- A list of numbers in a block of the call's own, with its capacity; append of one number. -/
namespace Go.Proofs.Ytbejgbflipoboaa
open Go.RowKit

/-- a list of numbers (element type T) that lies in the block g, made since the world had the size B -/
def OwnG (W : World) (T : TypeId) (B g n cap : Nat) (l : List Int) : Prop := W.ownsRow B T 1 (.slice (some ⟨g, 0, none⟩) n cap) n (l.map (.int .i64))
section
variable {W X : World} {T : TypeId} {B g n cap : Nat} {l : List Int}
theorem OwnG.len (h : OwnG W T B g n cap l) : l.length = n := by have := h.1; simp at this; omega
theorem OwnG.slot (h : OwnG W T B g n cap l) : g < W.heap.size ∧ n ≤ cap ∧ B ≤ g := by
  rcases h.2 with ⟨e, _⟩ | ⟨g', cap', cur, e, hb, hg, h1, _⟩
  · simp at e
  · simp at e
    obtain ⟨rfl, rfl⟩ := e
    exact ⟨(Array.getElem?_eq_some_iff.1 hg).1, h1, hb⟩
theorem OwnG.cell {i : Nat} (h : OwnG W T B g n cap l) (hi : i < l.length) : W.cell? ⟨g, i, none⟩ = some (.int .i64 (l[i]?.getD 0)) := by
  refine (World.ownsRow.cellAt h i (by have := h.len; omega)).trans ?_
  rw [List.getElem?_map]; simp [hi]
theorem OwnG.store (h : OwnG W T B g n cap l) (i : Nat) (v : Int) : OwnG (W.setCell ⟨g, i, none⟩ (.int .i64 v)) T B g n cap (l.set i v) := by
  have hst := (World.ownsRow.stored h i (.int .i64 v)).1
  rw [← List.map_set] at hst
  exact hst
theorem OwnG.ext (h : OwnG W T B g n cap l) (hE : Ext W X) : OwnG X T B g n cap l := row_ext h hE
theorem OwnG.froz (h : OwnG W T B g n cap l) (i : Nat) : W.frozen? ⟨g, i, none⟩ = false := World.ownsRow.frozenAt h i
theorem OwnG.other {g' : Nat} (h : OwnG W T B g n cap l) (hne : g' ≠ g) (i : Nat) (u : Value) : OwnG (W.setCell ⟨g', i, none⟩ u) T B g n cap l :=
  row_set_other h (by simpa [Value.ownBlock] using hne) i u
theorem OwnG.ints (h : OwnG W T B g n cap l) : Ints W (some ⟨g, 0, none⟩) l := fun j hj => ⟨g, 0, rfl, h.slot.1, by rw [Nat.zero_add]; exact h.cell hj⟩
theorem OwnG.base {B' : Nat} (h : OwnG W T B g n cap l) (hB : B' ≤ B) : OwnG W T B' g n cap l := row_base h hB
end
/-- out = append(out, x): one number -/
theorem wpList_push1 {P : Program} {ops : Array Oper} {rest : List Oper} {o : Oper} {a : Act} {Q : Exit → Act → World → Prop} {w : World} {T0 : TypeId} {i : TypeInfo} {x : Int} {v : Value} {k base : Nat} {xs : List Int} (hgd : o.guard = none) (s xx : Operand) (t : TypeId)
    (ho : o.op = .call { callee := .builtin .append, args := #[s, xx], argTypes := #[t, t] }) (hi : P.info? T0 = some i ∧ i.zero = some (.int .i64 0) ∧ i.size = 1 ∧ i.bytes = 8) (ht : P.underlying t = some (.slice T0))
    (hs : a.eval s = v) (hx : a.eval xx = .slice (some ⟨w.heap.size, 0, none⟩) 1 1) (hown : w.ownsRow base T0 1 v k (xs.map (.int .i64))) (hk : k ≤ 1000000) (hbase : base ≤ w.heap.size)
    (h : ∀ v' w', w'.ownsRow base T0 1 v' (k + 1) ((xs ++ [x]).map (.int .i64)) → (w.alloc (.cells #[.int .i64 x] T0)).grownBy w' v.ownBlock → (v'.ownBlock = v.ownBlock ∨ v'.ownBlock = some (w.alloc (.cells #[.int .i64 x] T0)).heap.size) → wpList P ops Q rest (a.put o.dst v') w') : wpList P ops Q (o :: rest) a (w.alloc (.cells #[.int .i64 x] T0)) := by
  obtain ⟨h2, h3, h4, h5⟩ := hi
  refine wpList_append_any _ hgd s xx t ho base T0 i (.int .i64 0) 1 8 ht h2 h3 h4 h5 rfl (by omega) v k _ hs (hown.alloc _) (w.heap.size + 1) (some ⟨w.heap.size, 0, none⟩) 1 1 [.int .i64 x] hx ⟨rfl, fun _ => ⟨_, rfl, ?_, fun j u' hj => ?_⟩⟩ (by simp [Value.oneCell']) (by unfold maxLen; omega) ?_ (by simp; omega) ?_
  · show w.heap.size < w.heap.size + 1; omega
  · match j, hj with
    | 0, hj => simp at hj; subst hj; rw [add_at]; simp
    | j + 1, hj => simp at hj
  · omega
  · intro v' w' h6 h7 h8
    exact h v' w' (by rw [List.map_append]; exact h6) h7 h8
end Go.Proofs.Ytbejgbflipoboaa
/- A region that draws its order, whose first n operations are quiet over grown worlds, but for some that make a block and wait for whatever they like; the rest is forced into one order behind them. One walk of the quiet operations serves every order; the blocks' places are bound behind it. -/
namespace Go.Proofs.Ytbejgbflipoboaa
open Go.RowKit

/-- an operation that makes a block: its number, its slot, what the block holds, its type -/
structure Maker where
  idx : Nat
  slot : Nat
  cells : Array Value
  ty : TypeId

/-- the quiet operations, in the order of the text -/
def pickQ : List Oper → List Bool → List Oper
  | o :: l, true :: m => o :: pickQ l m
  | _ :: l, false :: m => pickQ l m
  | _, _ => []

/-- a block that was made since w, and how the world has grown behind it -/
def MadeB (w : World) (m : Maker) (b : Nat) (W : World) : Prop := ∃ X, Ext w X ∧ Ext (X.alloc (.cells m.cells m.ty)) W ∧ b = X.heap.size
theorem MadeB.ext {w W W' : World} {m : Maker} {b : Nat} (h : MadeB w m b W) (hE : Ext W W') : MadeB w m b W' := by
  obtain ⟨X, h1, h2, h3⟩ := h
  exact ⟨X, h1, h2.trans' hE, h3⟩

def ptrV (b : Nat) : Value := .pointer (some ⟨b, 0, none⟩)
def putAll (b : Nat → Nat) (A : Act) : List Maker → Act
  | [] => A
  | m :: ms => (putAll b A ms).put (some m.slot) (ptrV (b m.idx))

section
variable {P : Program} {ops : Array Oper} {C : World → Prop}

theorem eval_agree {ops : Array Oper} (o : Oper) (hs : ∀ cs b, o.op ≠ .select cs b) {a a' : Act} (h : ∀ t ∈ o.looksAt ops, a'.tmps[t]? = a.tmps[t]?) :
    execOp a'.eval o = execOp a.eval o ∧ Region.wanted o (yielded ops a'.tmps) = Region.wanted o (yielded ops a.tmps) := by
  constructor
  · refine execOp_congr o hs fun x hx => ?_
    cases x with
    | tmp t =>
      have := h t (List.mem_append_left _ (List.mem_filterMap.2 ⟨.tmp t, by simpa using hx, rfl⟩))
      simp only [Act.eval, Array.getD_eq_getD_getElem?, this]
    | _ => rfl
  · unfold Region.wanted
    cases hg : o.guard with
    | none => rfl
    | some gw =>
      obtain ⟨g, want⟩ := gw
      have hy : yielded ops a'.tmps g = yielded ops a.tmps g := by
        unfold yielded
        cases ht : (ops[g]?).bind (·.dst) with
        | none => rfl
        | some t =>
          have := h t (by simp [Oper.looksAt, hg, ht])
          simp [this]
      simp only [hy]

theorem put_at {a : Act} {d t : Nat} {v : Value} (h : t ≠ d) : (a.put (some d) v).tmps[t]? = a.tmps[t]? := by
  simp [Act.put, Array.getElem?_setIfInBounds_ne (Ne.symm h)]
theorem put_hit {a : Act} {d : Nat} {v : Value} (h : d < a.tmps.size) : (a.put (some d) v).tmps[d]? = some v := by
  simp [Act.put, h]
theorem put_size {a : Act} {d : Option Tmp} {v : Value} : (a.put d v).tmps.size = a.tmps.size := by
  cases d <;> simp [Act.put]
theorem put_defers {a : Act} {d : Option Tmp} {v : Value} : (a.put d v).defers = a.defers := by
  cases d <;> rfl
theorem put_keep {a : Act} {d : Option Tmp} {t : Nat} {v : Value} (h : d ≠ some t) : (a.put d v).tmps[t]? = a.tmps[t]? := by
  cases d with
  | none => rfl
  | some d => exact put_at (fun e => h (by rw [e]))

def lexOKq (ops : Array Oper) (N : Nat) : List Oper → Bool
  | [] => true
  | o :: L => (match o.dst with | some d => decide (d < N) && !(o.looksAt ops).contains d | none => true) &&
      L.all (fun o' => match o'.dst with | some d => !(o.looksAt ops).contains d && (o.dst != some d) | none => true) && lexOKq ops N L

theorem lex_yields (hsel : ∀ o : Oper, o ∈ ops → ∀ cs b, o.op ≠ .select cs b) {N : Nat} {A : Act} : ∀ (L : List Oper) (a : Act), lexOKq ops N L = true → (∀ o ∈ L, o ∈ ops) → a.tmps.size = N → wpQuiet P ops C (fun a' => a' = A) L a →
    (∀ o ∈ L, ∃ v, YieldsIn P ops C o v A ∧ ∀ d, o.dst = some d → A.tmps[d]? = some v) ∧ (∀ t, (∀ o ∈ L, o.dst ≠ some t) → A.tmps[t]? = a.tmps[t]?) ∧ A.tmps.size = N ∧ A.defers = a.defers
  | [], a, _, _, hN, h => by
    obtain rfl : a = A := h
    exact ⟨fun o ho => (by cases ho), fun _ _ => rfl, hN, rfl⟩
  | o :: L, a, hB, hin, hN, h => by
    simp only [lexOKq, Bool.and_eq_true] at hB
    obtain ⟨⟨hB1, hB2⟩, hB3⟩ := hB
    have hst : ∃ v, YieldsIn P ops C o v a ∧ wpQuiet P ops C (fun a' => a' = A) L (a.put o.dst v) := by
      have h' : if Region.wanted o (yielded ops a.tmps) then o.quiet P a C (wpQuiet P ops C (fun a' => a' = A) L) else wpQuiet P ops C (fun a' => a' = A) L (a.put o.dst undef) := h
      by_cases hw : Region.wanted o (yielded ops a.tmps) = true
      · rw [if_pos hw] at h'
        obtain ⟨v, h1, h2⟩ := h'
        exact ⟨v, .inl ⟨hw, h1⟩, h2⟩
      · rw [if_neg hw] at h'
        exact ⟨undef, .inr ⟨by simpa using hw, rfl⟩, h'⟩
    obtain ⟨v, hy, hK⟩ := hst
    obtain ⟨i1, i2, i3, i4⟩ := lex_yields hsel L _ hB3 (fun o' ho' => hin o' (List.mem_cons_of_mem _ ho')) (by rw [put_size]; exact hN) hK
    have hLall := List.all_eq_true.1 hB2
    refine ⟨fun o' ho' => ?_, fun t ht => ?_, i3, by rw [i4, put_defers]⟩
    · rcases List.mem_cons.1 ho' with rfl | ho'
      · refine ⟨v, ?_, fun d hd => ?_⟩
        · have hag : ∀ t ∈ o'.looksAt ops, A.tmps[t]? = a.tmps[t]? := fun t ht => by
            rw [i2 t (fun o2 ho2 he => ?_), put_keep (fun he => ?_)]
            · rw [he] at hB1
              simp only [Bool.and_eq_true, Bool.not_eq_true', List.contains_eq_mem, decide_eq_false_iff_not] at hB1
              exact hB1.2 ht
            · have := hLall o2 ho2
              rw [he] at this
              simp only [Bool.and_eq_true, Bool.not_eq_true', List.contains_eq_mem, decide_eq_false_iff_not] at this
              exact this.1 ht
          obtain ⟨e1, e2⟩ := eval_agree (ops := ops) o' (hsel o' (hin o' List.mem_cons_self)) hag
          exact hy.of_same e1 e2
        · rw [i2 d (fun o2 ho2 he => ?_), hd, put_hit]
          · rw [hd] at hB1
            simp only [Bool.and_eq_true, decide_eq_true_eq] at hB1
            rw [hN]; exact hB1.1
          · have := hLall o2 ho2
            rw [he, hd] at this
            simp at this
      · exact i1 o' ho'
    · rw [i2 t (fun o2 ho2 => ht o2 (List.mem_cons_of_mem _ ho2)), put_keep (ht o List.mem_cons_self)]

/-- the form of the region -/
def floatB (ops : Array Oper) (N : Nat) (M : List Bool) (ms : List Maker) : Bool :=
  Region.noSelect ops && decide (M.length < ops.size) && Region.sinkB .any ops M.length && Region.chainB .any ops M.length &&
  Region.seqB .any ops (ops.size - M.length) M.length ((List.range ops.size).map fun i => decide (i < M.length)).toArray &&
  lexOKq ops N (pickQ ops.toList M) &&
  ((List.range M.length).all fun i => match ops[i]? with
    | some o => o.after.all (fun e => !(Region.binds .any e) || decide (e.on < i)) &&
        (if M.getD i true then (o.looksAt ops).all (fun t => (List.range M.length).all fun j => match ops[j]? with
            | some o' => (o'.dst != some t) || (M.getD j true && Region.waitsFor .any ops i j)
            | none => true)
          else ms.any fun m => decide (m.idx = i)) &&
        ((List.range M.length).all fun j => decide (i = j) || (match ops[j]? with | some o' => o.dst.isNone || (o.dst != o'.dst) | none => true))
    | none => false) &&
  (ms.all fun m => decide (m.idx < M.length) && !(M.getD m.idx true) && decide (m.slot < N) && (match ops[m.idx]? with | some o => (o.dst == some m.slot) && o.guard.isNone | none => false)) &&
  decide ((ms.map (·.slot)).Nodup)

theorem pickQ_mem : ∀ (l : List Oper) (M : List Bool) (i : Nat) (o : Oper), l[i]? = some o → M[i]? = some true → o ∈ pickQ l M
  | [], _, i, o, h, _ => by simp at h
  | a :: l, [], i, o, _, h => by simp at h
  | a :: l, true :: M, 0, o, h, _ => by simp at h; subst h; exact List.mem_cons_self
  | a :: l, false :: M, 0, o, _, h => by simp at h
  | a :: l, true :: M, i + 1, o, h, h' => List.mem_cons_of_mem _ (pickQ_mem l M i o (by simpa using h) (by simpa using h'))
  | a :: l, false :: M, i + 1, o, h, h' => pickQ_mem l M i o (by simpa using h) (by simpa using h')
theorem pickQ_sub : ∀ (l : List Oper) (M : List Bool) (o : Oper), o ∈ pickQ l M → ∃ i : Nat, l[i]? = some o ∧ M[i]? = some true
  | [], M, o, h => by cases M with | nil => cases h | cons b M => cases b <;> cases h
  | a :: l, [], o, h => by cases h
  | a :: l, true :: M, o, h => by
    rcases List.mem_cons.1 h with rfl | h
    · exact ⟨0, rfl, rfl⟩
    · obtain ⟨i, h1, h2⟩ := pickQ_sub l M o h
      exact ⟨i + 1, by simpa using h1, by simpa using h2⟩
  | a :: l, false :: M, o, h => by
    obtain ⟨i, h1, h2⟩ := pickQ_sub l M o h
    exact ⟨i + 1, by simpa using h1, by simpa using h2⟩

theorem putAll_size {b : Nat → Nat} {A : Act} : ∀ ms : List Maker, (putAll b A ms).tmps.size = A.tmps.size
  | [] => rfl
  | m :: ms => by rw [putAll, put_size, putAll_size ms]
theorem putAll_defers {b : Nat → Nat} {A : Act} : ∀ ms : List Maker, (putAll b A ms).defers = A.defers
  | [] => rfl
  | m :: ms => by rw [putAll, put_defers, putAll_defers ms]
theorem putAll_keep {b : Nat → Nat} {A : Act} {t : Nat} : ∀ ms : List Maker, (∀ m ∈ ms, m.slot ≠ t) → (putAll b A ms).tmps[t]? = A.tmps[t]?
  | [], _ => rfl
  | m :: ms, h => by
    rw [putAll, put_at (Ne.symm (h m List.mem_cons_self)), putAll_keep ms (fun m' hm' => h m' (List.mem_cons_of_mem _ hm'))]
theorem putAll_hit {b : Nat → Nat} {A : Act} : ∀ ms : List Maker, (ms.map (·.slot)).Nodup → ∀ m ∈ ms, m.slot < A.tmps.size → (putAll b A ms).tmps[m.slot]? = some (ptrV (b m.idx))
  | [], _, m, h, _ => by cases h
  | m :: ms, hn, m', h, hsz => by
    simp only [List.map_cons, List.nodup_cons] at hn
    rcases List.mem_cons.1 h with rfl | h
    · rw [putAll, put_hit (by rw [putAll_size]; exact hsz)]
    · rw [putAll, put_at (fun e => hn.1 (by rw [← e]; exact List.mem_map.2 ⟨m', h, rfl⟩)), putAll_hit ms hn.2 m' h hsz]

/-- a state on the way, in whatever order -/
structure FloatSt (P : Program) (ops : Array Oper) (w : World) (N : Nat) (M : List Bool) (ms : List Maker) (A : Act) (listed : Array Bool) (a : Act) (b : Nat → Nat) (W : World) : Prop where
  inv : HeadInv .any ops M.length listed
  ext : Ext w W
  size : a.tmps.size = N
  defers : a.defers = A.defers
  quiet : ∀ i, M[i]? = some true → listed.getD i false = true → ∀ o, ops[i]? = some o → ∀ d, o.dst = some d → a.tmps[d]? = A.tmps[d]?
  rest : ∀ t, (∀ i, i < M.length → ∀ o, ops[i]? = some o → o.dst ≠ some t) → a.tmps[t]? = A.tmps[t]?
  made : ∀ m ∈ ms, listed.getD m.idx false = true → a.tmps[m.slot]? = some (ptrV (b m.idx)) ∧ MadeB w m (b m.idx) W

/-- how many of the first n are still to come -/
def unl (listed : Array Bool) (n : Nat) : Nat := ((List.range n).filter fun i => !listed.getD i true).length

theorem unl_set {listed : Array Bool} {i n : Nat} (hi : i < n) (hs : i < listed.size) (hu : listed.getD i true = false) : unl listed n = unl (listed.setIfInBounds i true) n + 1 := by
  unfold unl
  induction n with
  | zero => omega
  | succ n ih =>
    rw [List.range_succ, List.filter_append, List.filter_append, List.length_append, List.length_append]
    by_cases e : i = n
    · subst e
      have h1 : (List.range i).filter (fun k => !(listed.setIfInBounds i true).getD k true) = (List.range i).filter (fun k => !listed.getD k true) := by
        refine List.filter_congr fun k hk => ?_
        rw [getD_set_ne true (by have := List.mem_range.1 hk; omega)]
      rw [h1]
      have h2 : (listed.setIfInBounds i true).getD i true = true := by simp [hs]
      simp only [List.filter_cons, List.filter_nil, hu, h2, Bool.not_true, Bool.not_false, if_true, Bool.false_eq_true, if_false, List.length_cons, List.length_nil]
    · rw [ih (by omega), List.filter_cons, List.filter_cons, getD_set_ne true e]
      simp only [List.filter_nil]
      omega
theorem unl_zero {listed : Array Bool} {n : Nat} (h : unl listed n = 0) : ∀ i, i < n → listed.getD i true = true := by
  intro i hi
  unfold unl at h
  rw [List.length_eq_zero_iff, List.filter_eq_nil_iff] at h
  have := h i (List.mem_range.2 hi)
  simpa using this
theorem unl_pos {listed : Array Bool} {n k : Nat} (h : unl listed n = k + 1) : ∃ i, i < n ∧ listed.getD i true = false := by
  unfold unl at h
  have : (List.range n).filter (fun i => !listed.getD i true) ≠ [] := fun e => by rw [e] at h; simp at h
  obtain ⟨i, hi⟩ := List.exists_mem_of_ne_nil _ this
  rw [List.mem_filter, List.mem_range] at hi
  exact ⟨i, hi.1, by simpa using hi.2⟩

structure FloatOK (ops : Array Oper) (N : Nat) (M : List Bool) (mks : List Maker) : Prop where
  sel : Region.noSelect ops = true
  lt : M.length < ops.size
  sink : Region.sinkB .any ops M.length = true
  chain : Region.chainB .any ops M.length = true
  seq : Region.seqB .any ops (ops.size - M.length) M.length ((List.range ops.size).map fun i => decide (i < M.length)).toArray = true
  lex : lexOKq ops N (pickQ ops.toList M) = true
  back : ∀ i, i < M.length → ∀ o, ops[i]? = some o → ∀ e ∈ o.after, Region.binds .any e = true → e.on < i
  deps : ∀ i, M[i]? = some true → ∀ o, ops[i]? = some o → ∀ t ∈ o.looksAt ops, ∀ j, j < M.length → ∀ o', ops[j]? = some o' → o'.dst = some t → M[j]? = some true ∧ Region.waitsFor .any ops i j = true
  maker : ∀ i, M[i]? = some false → ∃ m ∈ mks, m.idx = i
  apart : ∀ i, i < M.length → ∀ o, ops[i]? = some o → ∀ j, j < M.length → i ≠ j → ∀ o', ops[j]? = some o' → ∀ d, o.dst = some d → o'.dst ≠ some d
  ms : ∀ m ∈ mks, M[m.idx]? = some false ∧ m.slot < N ∧ ∃ o, ops[m.idx]? = some o ∧ o.dst = some m.slot ∧ o.guard = none
  nodup : (List.map (fun m : Maker => m.slot) mks).Nodup

theorem floatOK {N : Nat} {M : List Bool} {ms : List Maker} (h : floatB ops N M ms = true) : FloatOK ops N M ms := by
  simp only [floatB, Bool.and_eq_true, decide_eq_true_eq] at h
  obtain ⟨⟨⟨⟨⟨⟨⟨⟨h1, h2⟩, h3⟩, h4⟩, h5⟩, h6⟩, h7⟩, h8⟩, h9⟩ := h
  have hM : ∀ i b, M[i]? = some b → i < M.length ∧ M.getD i true = b := fun i b hb => ⟨(List.getElem?_eq_some_iff.1 hb).1, by simp [List.getD_eq_getElem?_getD, hb]⟩
  have hM2 : ∀ i, i < M.length → M[i]? = some (M.getD i true) := fun i hi => by simp [List.getD_eq_getElem?_getD, hi]
  have H7 := fun i (hi : i < M.length) => List.all_eq_true.1 h7 i (List.mem_range.2 hi)
  refine ⟨h1, h2, h3, h4, h5, h6, fun i hi o ho e he hb => ?_, fun i hi o ho t ht j hj o' ho' hd => ?_, fun i hi => ?_, fun i hi o ho j hj hij o' ho' d hd hd' => ?_, fun m hm => ?_, h9⟩
  · have := H7 i hi
    simp only [ho, Bool.and_eq_true] at this
    have h' := Array.all_eq_true_iff_forall_mem.1 this.1.1 e he
    simpa [hb] using h'
  · obtain ⟨hi1, hi2⟩ := hM i true hi
    have := H7 i hi1
    simp only [ho, Bool.and_eq_true] at this
    have h' := this.1.2
    rw [if_pos hi2] at h'
    have h'' := List.all_eq_true.1 (List.all_eq_true.1 h' t ht) j (List.mem_range.2 hj)
    simp only [ho', hd, bne_self_eq_false, Bool.false_or, Bool.and_eq_true] at h''
    exact ⟨by rw [hM2 j hj, h''.1], h''.2⟩
  · obtain ⟨hi1, hi2⟩ := hM i false hi
    have := H7 i hi1
    have hlt : i < ops.size := by omega
    have ho : ops[i]? = some ops[i] := by simp [hlt]
    simp only [ho, Bool.and_eq_true] at this
    have h' := this.1.2
    rw [if_neg (by rw [hi2]; simp)] at h'
    obtain ⟨m, hm, he⟩ := List.any_eq_true.1 h'
    exact ⟨m, hm, of_decide_eq_true he⟩
  · have := H7 i hi
    simp only [ho, Bool.and_eq_true] at this
    have h' := List.all_eq_true.1 this.2 j (List.mem_range.2 hj)
    simp [ho', hij, hd, hd'] at h'
  · have := List.all_eq_true.1 h8 m hm
    simp only [Bool.and_eq_true, decide_eq_true_eq] at this
    obtain ⟨⟨⟨g1, g2⟩, g3⟩, g4⟩ := this
    have hlt : m.idx < ops.size := by omega
    have ho : ops[m.idx]? = some ops[m.idx] := by simp [hlt]
    simp only [ho, Bool.and_eq_true, beq_iff_eq, Option.isNone_iff_eq_none] at g4
    exact ⟨by rw [hM2 _ g1]; simpa using g2, g3, _, ho, g4.1, g4.2⟩

theorem exists_first' (p : Nat → Prop) [DecidablePred p] : ∀ n, (∃ j, j < n ∧ p j) → ∃ i, i < n ∧ p i ∧ ∀ j, j < i → ¬ p j
  | 0, h => by obtain ⟨j, hj, _⟩ := h; omega
  | n + 1, h => by
    by_cases h' : ∃ j, j < n ∧ p j
    · obtain ⟨i, hi, h1, h2⟩ := exists_first' p n h'
      exact ⟨i, by omega, h1, h2⟩
    · obtain ⟨j, hj, hp⟩ := h
      have : j = n := by
        rcases Nat.lt_or_ge j n with h1 | h1
        · exact absurd ⟨j, h1, hp⟩ h'
        · omega
      subst this
      exact ⟨j, by omega, hp, fun q hq hpq => h' ⟨q, hq, hpq⟩⟩
theorem nodup_slot : ∀ ms : List Maker, (ms.map (·.slot)).Nodup → ∀ m ∈ ms, ∀ m' ∈ ms, m.slot = m'.slot → m = m'
  | [], _, m, h, _, _, _ => by cases h
  | x :: ms, hn, m, h, m', h', he => by
    simp only [List.map_cons, List.nodup_cons] at hn
    rcases List.mem_cons.1 h with rfl | hh
    · rcases List.mem_cons.1 h' with rfl | hh'
      · rfl
      · exact (hn.1 (List.mem_map.2 ⟨m', hh', he.symm⟩)).elim
    · rcases List.mem_cons.1 h' with rfl | hh'
      · exact (hn.1 (List.mem_map.2 ⟨m, hh, he⟩)).elim
      · exact nodup_slot ms hn.2 m hh m' hh' he

theorem any_of_float {w : World} {N : Nat} {M : List Bool} {ms : List Maker} {A : Act} {Q : Exit → Act → World → Prop} (hB : FloatOK ops N M ms)
    (hmk : ∀ m ∈ ms, ∀ o, ops[m.idx]? = some o → ∀ ρ W, (execOp ρ o).run P W = .ok (.value (ptrV W.heap.size)) (W.alloc (.cells m.cells m.ty)))
    (hq : ∀ W1, Ext w W1 → ∀ o ∈ pickQ ops.toList M, ∃ v, YieldsIn P ops (fun w' => ∃ x : GW W1, w' = x.world) o v A ∧ ∀ d, o.dst = some d → A.tmps[d]? = some v) (hAs : A.tmps.size = N)
    (hT : ∀ b W, Ext w W → (∀ m ∈ ms, MadeB w m (b m.idx) W) → wpList P ops Q (ops.toList.drop M.length) (putAll b A ms) W) :
    ∀ (f : Nat) (listed : Array Bool) (a : Act) (b : Nat → Nat) (W : World), unl listed M.length = f → FloatSt P ops w N M ms A listed a b W → wpAny P .any ops Q (f + (ops.size - M.length)) listed a W
  | 0, listed, a, b, W, hf, st => by
    have hall := unl_zero hf
    have hlisted : listed = ((List.range ops.size).map fun i => decide (i < M.length)).toArray := by
      apply Array.ext_getElem?
      intro i
      simp only [List.getElem?_toArray, List.getElem?_map]
      rcases Nat.lt_or_ge i ops.size with hi | hi
      · have hi' : i < listed.size := by rw [st.inv.size]; exact hi
        rw [List.getElem?_range hi]
        simp only [Option.map_some]
        rcases Nat.lt_or_ge i M.length with h | h
        · have := hall i h
          simp [hi'] at this
          simp [hi', this, h]
        · have := st.inv.tail i h hi
          simp [hi'] at this
          have hn : ¬ i < M.length := by omega
          simp [hi', this, hn]
      · have h1 : listed[i]? = none := by simp [st.inv.size, hi]
        rw [h1]; simp [hi]
    have ha : a = putAll b A ms := by
      have ht : a.tmps = (putAll b A ms).tmps := by
        apply Array.ext_getElem?
        intro t
        by_cases h : ∃ m ∈ ms, m.slot = t
        · obtain ⟨m, hm, rfl⟩ := h
          obtain ⟨h1, h2, o, ho, hd, hg⟩ := hB.ms m hm
          have hidx := (List.getElem?_eq_some_iff.1 h1).1
          have hl : listed.getD m.idx false = true := by
            have h3 := hall m.idx hidx
            have h4 : m.idx < listed.size := by rw [st.inv.size]; have := hB.lt; omega
            simp [h4] at h3 ⊢; exact h3
          rw [putAll_hit ms hB.nodup m hm (by rw [hAs]; exact h2), (st.made m hm hl).1]
        · rw [putAll_keep ms (fun m hm he => h ⟨m, hm, he⟩)]
          by_cases h' : ∃ i, i < M.length ∧ ∃ o, ops[i]? = some o ∧ o.dst = some t
          · obtain ⟨i, hi, o, ho, hd⟩ := h'
            have hM2 : M[i]? = some (M.getD i true) := by simp [List.getD_eq_getElem?_getD, hi]
            cases hm : M.getD i true with
            | true =>
              rw [hm] at hM2
              have hl : listed.getD i false = true := by
                have h3 := hall i hi
                have h4 : i < listed.size := by rw [st.inv.size]; have := hB.lt; omega
                simp [h4] at h3 ⊢; exact h3
              exact st.quiet i hM2 hl o ho t hd
            | false =>
              rw [hm] at hM2
              obtain ⟨m, hm2, rfl⟩ := hB.maker i hM2
              obtain ⟨h1, h2, o', ho', hd', hg⟩ := hB.ms m hm2
              obtain rfl := Option.some.inj (ho.symm.trans ho')
              rw [hd] at hd'
              exact absurd ⟨m, hm2, (Option.some.inj hd').symm⟩ h
          · exact st.rest t (fun i hi o ho hd => h' ⟨i, hi, o, ho, hd⟩)
      have hd : a.defers = (putAll b A ms).defers := by rw [putAll_defers]; exact st.defers
      calc a = ⟨a.tmps, a.defers⟩ := rfl
        _ = _ := by rw [ht, hd]
    have h := wpAny_of_seq (md := .any) (Q' := Q) (P := P) (ops := ops) (ops.toList.drop M.length) M.length listed a W (fun j => by simp [List.getElem?_drop]) (by
      rw [hlisted]; simpa using hB.seq) (by
      rw [ha]
      exact hT b W st.ext (fun m hm => (st.made m hm (by
        obtain ⟨h1, _⟩ := hB.ms m hm
        have hidx := (List.getElem?_eq_some_iff.1 h1).1
        have h3 := hall m.idx hidx
        have h4 : m.idx < listed.size := by rw [st.inv.size]; have := hB.lt; omega
        simp [h4] at h3 ⊢; exact h3)).2))
    rw [Nat.zero_add]
    simpa using h
  | f + 1, listed, a, b, W, hf, st => by
    obtain ⟨i0, hi0, hu0⟩ := unl_pos hf
    obtain ⟨k0, hk0, hku, hkmin⟩ := exists_first' (fun i => listed.getD i true = false) M.length ⟨i0, hi0, hu0⟩
    have hsz := st.inv.size
    have hlt := hB.lt
    have hready : k0 ∈ Region.ready .any ops listed := by
      refine mem_ready.2 ⟨hku, ops[k0]'(by omega), by simp [show k0 < ops.size by omega], fun e he hb => ?_⟩
      have h1 := hB.back k0 hk0 _ (by simp [show k0 < ops.size by omega]) e he hb
      have h2 := hkmin e.on h1
      have h4 : e.on < listed.size := by omega
      simp [h4] at h2 ⊢; exact h2
    rw [show f + 1 + (ops.size - M.length) = (f + (ops.size - M.length)) + 1 by omega]
    refine ⟨fun h0 => (by rw [h0] at hready; cases hready), fun i hi => ?_⟩
    have hin : i < M.length := by
      rcases Nat.lt_or_ge i M.length with h | h
      · exact h
      · exact absurd hi (tail_waits hB.sink hB.chain hlt st.inv _ i0 rfl hi0 hu0 i h)
    obtain ⟨hiu, o, ho, hall⟩ := mem_ready.1 hi
    have his : i < listed.size := by omega
    have hul := unl_set hin his hiu
    have hM2 : M[i]? = some (M.getD i true) := by simp [List.getD_eq_getElem?_getD, hin]
    have hset : ∀ j, (listed.setIfInBounds i true).getD j false = true → j = i ∨ listed.getD j false = true := fun j hj => by
      by_cases e : i = j
      · exact .inl e.symm
      · rw [getD_set_ne false e] at hj; exact .inr hj
    cases hm : M.getD i true with
    | true =>
      rw [hm] at hM2
      obtain ⟨v, hy, hv⟩ := hq W st.ext o (pickQ_mem _ _ i o (by simpa using ho) hM2)
      have hsel := Region.noSelect_spec hB.sel
      have hag : ∀ t ∈ o.looksAt ops, a.tmps[t]? = A.tmps[t]? := fun t ht => by
        by_cases h' : ∃ j, j < M.length ∧ ∃ o', ops[j]? = some o' ∧ o'.dst = some t
        · obtain ⟨j, hj, o', ho', hd⟩ := h'
          obtain ⟨g1, g2⟩ := hB.deps i hM2 o ho t ht j hj o' ho' hd
          obtain ⟨oi, hoi, e, he, hb, hon⟩ := Region.waitsFor_spec g2
          obtain rfl := Option.some.inj (ho.symm.trans hoi)
          have h1 := hall e he hb
          rw [hon] at h1
          exact st.quiet j g1 h1 o' ho' t hd
        · exact st.rest t (fun j hj o' ho' hd => h' ⟨j, hj, o', ho', hd⟩)
      obtain ⟨e1, e2⟩ := eval_agree (ops := ops) o (fun cs b => hsel i o cs b ho) hag
      have hy' := hy.of_same e1 e2
      refine wpOp_of_qOp (C := fun w' => ∃ x : GW W, w' = x.world) ⟨⟨W, Below.refl _ _⟩, rfl⟩ (K := fun a' => a' = a.put o.dst v) (fun a' w' hC hK => ?_) (hy'.qOp ho rfl)
      obtain ⟨x, rfl⟩ := hC
      subst hK
      refine any_of_float hB hmk hq hAs hT f _ _ b _ (by omega) ⟨st.inv.set hi hin, st.ext.trans' x.ext, by rw [put_size]; exact st.size, by rw [put_defers]; exact st.defers, fun j hj hl o' ho' d hd => ?_, fun t ht => ?_, fun m hm' hl => ?_⟩
      · rcases hset j hl with rfl | hl'
        · obtain rfl := Option.some.inj (ho.symm.trans ho')
          have hds : d < a.tmps.size := by
            have := hv d hd
            rw [st.size, ← hAs]
            exact (Array.getElem?_eq_some_iff.1 this).1
          rw [hd, put_hit hds, hv d hd]
        · by_cases e : j = i
          · subst e
            obtain rfl := Option.some.inj (ho.symm.trans ho')
            have hds : d < a.tmps.size := by
              have := hv d hd
              rw [st.size, ← hAs]
              exact (Array.getElem?_eq_some_iff.1 this).1
            rw [hd, put_hit hds, hv d hd]
          · have hjn := (List.getElem?_eq_some_iff.1 hj).1
            rw [put_keep (fun he => hB.apart j hjn o' ho' i hin e o ho d hd he)]
            exact st.quiet j hj hl' o' ho' d hd
      · rw [put_keep (fun he => ht i hin o ho he)]
        exact st.rest t ht
      · obtain ⟨g1, g2, o', ho', hd', hg'⟩ := hB.ms m hm'
        have hne : m.idx ≠ i := fun e => by rw [e, hM2] at g1; cases g1
        rcases hset m.idx hl with e | hl'
        · exact absurd e hne
        · obtain ⟨h1, h2⟩ := st.made m hm' hl'
          have hmn := (List.getElem?_eq_some_iff.1 g1).1
          exact ⟨by rw [put_keep (fun he => hB.apart m.idx hmn o' ho' i hin hne o ho m.slot hd' he)]; exact h1, h2.ext x.ext⟩
    | false =>
      rw [hm] at hM2
      obtain ⟨m, hm2, rfl⟩ := hB.maker i hM2
      obtain ⟨g1, g2, o', ho', hd', hg'⟩ := hB.ms m hm2
      obtain rfl := Option.some.inj (ho.symm.trans ho')
      have hrun := hmk m hm2 o ho a.eval W
      have hw : Region.wanted o (yielded ops a.tmps) = true := by unfold Region.wanted; rw [hg']
      unfold wpOp
      simp only [ho, hw, if_true]
      refine .inl ?_
      unfold Oper.wp
      rw [hrun]
      show wpAny P .any ops Q (f + (ops.size - M.length)) (listed.setIfInBounds m.idx true) (a.put o.dst (ptrV W.heap.size)) (W.alloc (.cells m.cells m.ty))
      have hEa := ext_alloc W (.cells m.cells m.ty)
      refine any_of_float hB hmk hq hAs hT f _ _ (fun j => if j = m.idx then W.heap.size else b j) _ (by omega) ⟨st.inv.set hi hin, st.ext.trans' hEa, by rw [put_size]; exact st.size, by rw [put_defers]; exact st.defers, fun j hj hl o' ho' d hd => ?_, fun t ht => ?_, fun m' hm' hl => ?_⟩
      · have hne : j ≠ m.idx := fun e => by rw [e, hM2] at hj; cases hj
        rcases hset j hl with e | hl'
        · exact absurd e hne
        · have hjn := (List.getElem?_eq_some_iff.1 hj).1
          rw [put_keep (fun he => hB.apart j hjn o' ho' m.idx hin hne o ho d hd he)]
          exact st.quiet j hj hl' o' ho' d hd
      · rw [put_keep (fun he => ht m.idx hin o ho he)]
        exact st.rest t ht
      · by_cases e : m'.idx = m.idx
        · have hsl : m'.slot = m.slot := by
            obtain ⟨k1, k2, o2, ho2, hd2, hg2⟩ := hB.ms m' hm'
            rw [e] at ho2
            obtain rfl := Option.some.inj (ho2.symm.trans ho)
            rw [hd2] at hd'
            exact Option.some.inj hd'
          have hmm : m' = m := nodup_slot ms hB.nodup m' hm' m hm2 hsl
          subst hmm
          rw [if_pos rfl, hd', put_hit (by rw [st.size]; exact g2)]
          exact ⟨rfl, W, st.ext, Below.refl _ _, rfl⟩
        · rcases hset m'.idx hl with e' | hl'
          · exact absurd e' e
          · rw [if_neg e]
            obtain ⟨h1, h2⟩ := st.made m' hm' hl'
            obtain ⟨k1, k2, o2, ho2, hd2, hg2⟩ := hB.ms m' hm'
            have hmn := (List.getElem?_eq_some_iff.1 k1).1
            exact ⟨by rw [put_keep (fun he => hB.apart m'.idx hmn o2 ho2 m.idx hin e o ho m'.slot hd2 he)]; exact h1, h2.ext hEa⟩
end

/-- One walk of the quiet operations, in a world that has grown as it likes; the frame behind it, the makers' slots apart, is A; then the tail. -/
theorem wp_region_float {P : Program} {id : Nat} {Q : Exit → Act → World → Prop} {a A : Act} {w : World} {l : List Oper} (N : Nat) (M : List Bool) (ms : List Maker) (hm : P.follows .mixedOrders = true) (hB : floatB l.toArray N M ms = true) (hN : a.tmps.size = N)
    (hmk : ∀ m ∈ ms, ∀ o, l.toArray[m.idx]? = some o → ∀ ρ W, (execOp ρ o).run P W = .ok (.value (ptrV W.heap.size)) (W.alloc (.cells m.cells m.ty)))
    (h : ∀ W1, Ext w W1 → wpQuiet P l.toArray (fun w' => ∃ x : GW W1, w' = x.world) (fun a' => a' = A) (pickQ l M) a)
    (hT : ∀ b W, Ext w W → (∀ m ∈ ms, MadeB w m (b m.idx) W) → wpList P l.toArray Q (l.drop M.length) (putAll b A ms) W) : (Code.region id l.toArray true).wp P Q a w := by
  have hok := floatOK hB
  have hsel : ∀ o : Oper, o ∈ l.toArray → ∀ cs b, o.op ≠ .select cs b := fun o ho cs b => by
    obtain ⟨i, hi, rfl⟩ := Array.getElem_of_mem ho
    exact Region.noSelect_spec hok.sel i _ cs b (by simp [show i < l.length by simpa using hi])
  have hsub : ∀ o ∈ pickQ l M, o ∈ l.toArray := fun o ho => by
    obtain ⟨i, hi, _⟩ := pickQ_sub l M o ho
    simpa using List.mem_of_getElem? hi
  have hlex : ∀ W1, Ext w W1 → _ := fun W1 hE => lex_yields hsel (pickQ l M) a (by simpa using hok.lex) hsub hN (h W1 hE)
  obtain ⟨_, h2, h3, h4⟩ := hlex w (Below.refl _ _)
  refine wp_region_any hm ?_
  have hu : unl (Array.replicate l.toArray.size false) M.length = M.length := by
    unfold unl
    have hlt := hok.lt
    have : (List.range M.length).filter (fun i => !(Array.replicate l.toArray.size false).getD i true) = List.range M.length := by
      refine List.filter_eq_self.2 fun i hi => ?_
      have := List.mem_range.1 hi
      have h5 : i < l.toArray.size := by omega
      simp at h5
      simp [h5]
    rw [this, List.length_range]
  have := any_of_float (Q := Q) (w := w) (P := P) (A := A) hok hmk (fun W1 hE o ho => (hlex W1 hE).1 o (by simpa using ho)) h3 (by simpa using hT) M.length (Array.replicate l.toArray.size false) a (fun _ => 0) { w with drawn := w.drawn + 1 } hu
    ⟨headInv_none _, ext_drew w, hN, h4.symm, fun j _ hl => (by rw [getD_replicate_false] at hl; cases hl), fun t ht => (h2 t (fun o ho hd => by
      obtain ⟨i, hi, hi2⟩ := pickQ_sub l M o ho
      exact ht i (List.getElem?_eq_some_iff.1 hi2).1 o (by simpa using hi) hd)).symm, fun m _ hl => (by rw [getD_replicate_false] at hl; cases hl)⟩
  have hlt := hok.lt
  rw [show M.length + (l.toArray.size - M.length) = l.toArray.size by omega] at this
  exact this
end Go.Proofs.Ytbejgbflipoboaa
/- A region that draws its order, whose operations are quiet over grown worlds, but for some that make a block and some that fill such a block once: one walk of the quiet operations serves every order; the blocks' places are bound behind it. -/
namespace Go.Proofs.Ytbejgbflipoboaa.FillN
open Go.RowKit

/-- an operation that makes a block: its number, its slot, what the block holds, its type -/
structure Filler where
  idx : Nat
  slot : Nat
  cells : Array Value
  ty : TypeId
  fidx : Nat
  fill : Array Value

/-- the quiet operations, in the order of the text -/
def pickQ : List Oper → List Bool → List Oper
  | o :: l, true :: m => o :: pickQ l m
  | _ :: l, false :: m => pickQ l m
  | _, _ => []

/-- a block that was made since w, filled or not -/
def HeldB (w : World) (m : Filler) (full : Bool) (b : Nat) (W : World) : Prop := w.heap.size ≤ b ∧ W.heap[b]? = some (.cells (if full then m.fill else m.cells) m.ty)
theorem HeldB.lt {w W : World} {m : Filler} {f : Bool} {b : Nat} (h : HeldB w m f b W) : b < W.heap.size := (Array.getElem?_eq_some_iff.1 h.2).1
theorem HeldB.ext {w W W' : World} {m : Filler} {f : Bool} {b : Nat} (h : HeldB w m f b W) (hE : Ext W W') : HeldB w m f b W' := ⟨h.1, (hE.block b h.lt).trans h.2⟩

def ptrV (b : Nat) : Value := .pointer (some ⟨b, 0, none⟩)
def putAll (b : Nat → Nat) (A : Act) : List Filler → Act
  | [] => A
  | m :: ms => (putAll b A ms).put (some m.slot) (ptrV (b m.idx))

section
variable {P : Program} {ops : Array Oper} {C : World → Prop}

theorem eval_agree {ops : Array Oper} (o : Oper) (hs : ∀ cs b, o.op ≠ .select cs b) {a a' : Act} (h : ∀ t ∈ o.looksAt ops, a'.tmps[t]? = a.tmps[t]?) :
    execOp a'.eval o = execOp a.eval o ∧ Region.wanted o (yielded ops a'.tmps) = Region.wanted o (yielded ops a.tmps) := by
  constructor
  · refine execOp_congr o hs fun x hx => ?_
    cases x with
    | tmp t =>
      have := h t (List.mem_append_left _ (List.mem_filterMap.2 ⟨.tmp t, by simpa using hx, rfl⟩))
      simp only [Act.eval, Array.getD_eq_getD_getElem?, this]
    | _ => rfl
  · unfold Region.wanted
    cases hg : o.guard with
    | none => rfl
    | some gw =>
      obtain ⟨g, want⟩ := gw
      have hy : yielded ops a'.tmps g = yielded ops a.tmps g := by
        unfold yielded
        cases ht : (ops[g]?).bind (·.dst) with
        | none => rfl
        | some t =>
          have := h t (by simp [Oper.looksAt, hg, ht])
          simp [this]
      simp only [hy]

theorem put_at {a : Act} {d t : Nat} {v : Value} (h : t ≠ d) : (a.put (some d) v).tmps[t]? = a.tmps[t]? := by
  simp [Act.put, Array.getElem?_setIfInBounds_ne (Ne.symm h)]
theorem put_hit {a : Act} {d : Nat} {v : Value} (h : d < a.tmps.size) : (a.put (some d) v).tmps[d]? = some v := by
  simp [Act.put, h]
theorem put_size {a : Act} {d : Option Tmp} {v : Value} : (a.put d v).tmps.size = a.tmps.size := by
  cases d <;> simp [Act.put]
theorem put_defers {a : Act} {d : Option Tmp} {v : Value} : (a.put d v).defers = a.defers := by
  cases d <;> rfl
theorem put_keep {a : Act} {d : Option Tmp} {t : Nat} {v : Value} (h : d ≠ some t) : (a.put d v).tmps[t]? = a.tmps[t]? := by
  cases d with
  | none => rfl
  | some d => exact put_at (fun e => h (by rw [e]))

def lexOKq (ops : Array Oper) (N : Nat) : List Oper → Bool
  | [] => true
  | o :: L => (match o.dst with | some d => decide (d < N) && !(o.looksAt ops).contains d | none => true) &&
      L.all (fun o' => match o'.dst with | some d => !(o.looksAt ops).contains d && (o.dst != some d) | none => true) && lexOKq ops N L

theorem lex_yields (hsel : ∀ o : Oper, o ∈ ops → ∀ cs b, o.op ≠ .select cs b) {N : Nat} {A : Act} : ∀ (L : List Oper) (a : Act), lexOKq ops N L = true → (∀ o ∈ L, o ∈ ops) → a.tmps.size = N → wpQuiet P ops C (fun a' => a' = A) L a →
    (∀ o ∈ L, ∃ v, YieldsIn P ops C o v A ∧ ∀ d, o.dst = some d → A.tmps[d]? = some v) ∧ (∀ t, (∀ o ∈ L, o.dst ≠ some t) → A.tmps[t]? = a.tmps[t]?) ∧ A.tmps.size = N ∧ A.defers = a.defers
  | [], a, _, _, hN, h => by
    obtain rfl : a = A := h
    exact ⟨fun o ho => (by cases ho), fun _ _ => rfl, hN, rfl⟩
  | o :: L, a, hB, hin, hN, h => by
    simp only [lexOKq, Bool.and_eq_true] at hB
    obtain ⟨⟨hB1, hB2⟩, hB3⟩ := hB
    have hst : ∃ v, YieldsIn P ops C o v a ∧ wpQuiet P ops C (fun a' => a' = A) L (a.put o.dst v) := by
      have h' : if Region.wanted o (yielded ops a.tmps) then o.quiet P a C (wpQuiet P ops C (fun a' => a' = A) L) else wpQuiet P ops C (fun a' => a' = A) L (a.put o.dst undef) := h
      by_cases hw : Region.wanted o (yielded ops a.tmps) = true
      · rw [if_pos hw] at h'
        obtain ⟨v, h1, h2⟩ := h'
        exact ⟨v, .inl ⟨hw, h1⟩, h2⟩
      · rw [if_neg hw] at h'
        exact ⟨undef, .inr ⟨by simpa using hw, rfl⟩, h'⟩
    obtain ⟨v, hy, hK⟩ := hst
    obtain ⟨i1, i2, i3, i4⟩ := lex_yields hsel L _ hB3 (fun o' ho' => hin o' (List.mem_cons_of_mem _ ho')) (by rw [put_size]; exact hN) hK
    have hLall := List.all_eq_true.1 hB2
    refine ⟨fun o' ho' => ?_, fun t ht => ?_, i3, by rw [i4, put_defers]⟩
    · rcases List.mem_cons.1 ho' with rfl | ho'
      · refine ⟨v, ?_, fun d hd => ?_⟩
        · have hag : ∀ t ∈ o'.looksAt ops, A.tmps[t]? = a.tmps[t]? := fun t ht => by
            rw [i2 t (fun o2 ho2 he => ?_), put_keep (fun he => ?_)]
            · rw [he] at hB1
              simp only [Bool.and_eq_true, Bool.not_eq_true', List.contains_eq_mem, decide_eq_false_iff_not] at hB1
              exact hB1.2 ht
            · have := hLall o2 ho2
              rw [he] at this
              simp only [Bool.and_eq_true, Bool.not_eq_true', List.contains_eq_mem, decide_eq_false_iff_not] at this
              exact this.1 ht
          obtain ⟨e1, e2⟩ := eval_agree (ops := ops) o' (hsel o' (hin o' List.mem_cons_self)) hag
          exact hy.of_same e1 e2
        · rw [i2 d (fun o2 ho2 he => ?_), hd, put_hit]
          · rw [hd] at hB1
            simp only [Bool.and_eq_true, decide_eq_true_eq] at hB1
            rw [hN]; exact hB1.1
          · have := hLall o2 ho2
            rw [he, hd] at this
            simp at this
      · exact i1 o' ho'
    · rw [i2 t (fun o2 ho2 => ht o2 (List.mem_cons_of_mem _ ho2)), put_keep (ht o List.mem_cons_self)]

def readsB (ops : Array Oper) (M : List Bool) (i t : Nat) : Bool := (List.range M.length).all fun j => match ops[j]? with
  | some o' => (o'.dst != some t) || (M.getD j true && Region.waitsFor .any ops i j)
  | none => true
def fillerB (ops : Array Oper) (M : List Bool) (m : Filler) : Bool := match ops[m.fidx]? with
  | some o => o.dst.isNone && o.guard.isNone && Region.waitsFor .any ops m.fidx m.idx && (o.looksAt ops).all (fun t => decide (t = m.slot) || readsB ops M m.fidx t)
  | none => false
/-- the form of the region -/
def fillB (ops : Array Oper) (N : Nat) (M : List Bool) (ms : List Filler) : Bool :=
  Region.noSelect ops && decide (M.length = ops.size) &&
  lexOKq ops N (pickQ ops.toList M) &&
  ((List.range M.length).all fun i => match ops[i]? with
    | some o => o.after.all (fun e => !(Region.binds .any e) || decide (e.on < i)) &&
        (if M.getD i true then (o.looksAt ops).all (fun t => (List.range M.length).all fun j => match ops[j]? with
            | some o' => (o'.dst != some t) || (M.getD j true && Region.waitsFor .any ops i j)
            | none => true)
          else ms.any fun m => decide (m.idx = i) || decide (m.fidx = i)) &&
        ((List.range M.length).all fun j => decide (i = j) || (match ops[j]? with | some o' => o.dst.isNone || (o.dst != o'.dst) | none => true))
    | none => false) &&
  (ms.all fun m => decide (m.idx < M.length) && decide (m.fidx < M.length) && !(M.getD m.idx true) && !(M.getD m.fidx true) && decide (m.slot < N) && (match ops[m.idx]? with | some o => (o.dst == some m.slot) && o.guard.isNone | none => false) &&
    fillerB ops M m) &&
  decide ((ms.map (·.slot)).Nodup) && decide ((ms.map (·.fidx)).Nodup)

theorem pickQ_mem : ∀ (l : List Oper) (M : List Bool) (i : Nat) (o : Oper), l[i]? = some o → M[i]? = some true → o ∈ pickQ l M
  | [], _, i, o, h, _ => by simp at h
  | a :: l, [], i, o, _, h => by simp at h
  | a :: l, true :: M, 0, o, h, _ => by simp at h; subst h; exact List.mem_cons_self
  | a :: l, false :: M, 0, o, _, h => by simp at h
  | a :: l, true :: M, i + 1, o, h, h' => List.mem_cons_of_mem _ (pickQ_mem l M i o (by simpa using h) (by simpa using h'))
  | a :: l, false :: M, i + 1, o, h, h' => pickQ_mem l M i o (by simpa using h) (by simpa using h')
theorem pickQ_sub : ∀ (l : List Oper) (M : List Bool) (o : Oper), o ∈ pickQ l M → ∃ i : Nat, l[i]? = some o ∧ M[i]? = some true
  | [], M, o, h => by cases M with | nil => cases h | cons b M => cases b <;> cases h
  | a :: l, [], o, h => by cases h
  | a :: l, true :: M, o, h => by
    rcases List.mem_cons.1 h with rfl | h
    · exact ⟨0, rfl, rfl⟩
    · obtain ⟨i, h1, h2⟩ := pickQ_sub l M o h
      exact ⟨i + 1, by simpa using h1, by simpa using h2⟩
  | a :: l, false :: M, o, h => by
    obtain ⟨i, h1, h2⟩ := pickQ_sub l M o h
    exact ⟨i + 1, by simpa using h1, by simpa using h2⟩

theorem putAll_size {b : Nat → Nat} {A : Act} : ∀ ms : List Filler, (putAll b A ms).tmps.size = A.tmps.size
  | [] => rfl
  | m :: ms => by rw [putAll, put_size, putAll_size ms]
theorem putAll_defers {b : Nat → Nat} {A : Act} : ∀ ms : List Filler, (putAll b A ms).defers = A.defers
  | [] => rfl
  | m :: ms => by rw [putAll, put_defers, putAll_defers ms]
theorem putAll_keep {b : Nat → Nat} {A : Act} {t : Nat} : ∀ ms : List Filler, (∀ m ∈ ms, m.slot ≠ t) → (putAll b A ms).tmps[t]? = A.tmps[t]?
  | [], _ => rfl
  | m :: ms, h => by
    rw [putAll, put_at (Ne.symm (h m List.mem_cons_self)), putAll_keep ms (fun m' hm' => h m' (List.mem_cons_of_mem _ hm'))]
theorem putAll_hit {b : Nat → Nat} {A : Act} : ∀ ms : List Filler, (ms.map (·.slot)).Nodup → ∀ m ∈ ms, m.slot < A.tmps.size → (putAll b A ms).tmps[m.slot]? = some (ptrV (b m.idx))
  | [], _, m, h, _ => by cases h
  | m :: ms, hn, m', h, hsz => by
    simp only [List.map_cons, List.nodup_cons] at hn
    rcases List.mem_cons.1 h with rfl | h
    · rw [putAll, put_hit (by rw [putAll_size]; exact hsz)]
    · rw [putAll, put_at (fun e => hn.1 (by rw [← e]; exact List.mem_map.2 ⟨m', h, rfl⟩)), putAll_hit ms hn.2 m' h hsz]

/-- a state on the way, in whatever order -/
structure FillSt (P : Program) (ops : Array Oper) (w : World) (N : Nat) (M : List Bool) (ms : List Filler) (A : Act) (listed : Array Bool) (a : Act) (b : Nat → Nat) (W : World) : Prop where
  lsize : listed.size = ops.size
  ext : Ext w W
  size : a.tmps.size = N
  defers : a.defers = A.defers
  quiet : ∀ i, M[i]? = some true → listed.getD i false = true → ∀ o, ops[i]? = some o → ∀ d, o.dst = some d → a.tmps[d]? = A.tmps[d]?
  rest : ∀ t, (∀ i, i < M.length → ∀ o, ops[i]? = some o → o.dst ≠ some t) → a.tmps[t]? = A.tmps[t]?
  made : ∀ m ∈ ms, listed.getD m.idx false = true → a.tmps[m.slot]? = some (ptrV (b m.idx)) ∧ HeldB w m (listed.getD m.fidx false) (b m.idx) W
  inj : ∀ m ∈ ms, ∀ m' ∈ ms, m.idx ≠ m'.idx → listed.getD m.idx false = true → listed.getD m'.idx false = true → b m.idx ≠ b m'.idx
  order : ∀ m ∈ ms, listed.getD m.fidx false = true → listed.getD m.idx false = true

/-- how many of the first n are still to come -/
def unl (listed : Array Bool) (n : Nat) : Nat := ((List.range n).filter fun i => !listed.getD i true).length

theorem unl_set {listed : Array Bool} {i n : Nat} (hi : i < n) (hs : i < listed.size) (hu : listed.getD i true = false) : unl listed n = unl (listed.setIfInBounds i true) n + 1 := by
  unfold unl
  induction n with
  | zero => omega
  | succ n ih =>
    rw [List.range_succ, List.filter_append, List.filter_append, List.length_append, List.length_append]
    by_cases e : i = n
    · subst e
      have h1 : (List.range i).filter (fun k => !(listed.setIfInBounds i true).getD k true) = (List.range i).filter (fun k => !listed.getD k true) := by
        refine List.filter_congr fun k hk => ?_
        rw [getD_set_ne true (by have := List.mem_range.1 hk; omega)]
      rw [h1]
      have h2 : (listed.setIfInBounds i true).getD i true = true := by simp [hs]
      simp only [List.filter_cons, List.filter_nil, hu, h2, Bool.not_true, Bool.not_false, if_true, Bool.false_eq_true, if_false, List.length_cons, List.length_nil]
    · rw [ih (by omega), List.filter_cons, List.filter_cons, getD_set_ne true e]
      simp only [List.filter_nil]
      omega
theorem unl_zero {listed : Array Bool} {n : Nat} (h : unl listed n = 0) : ∀ i, i < n → listed.getD i true = true := by
  intro i hi
  unfold unl at h
  rw [List.length_eq_zero_iff, List.filter_eq_nil_iff] at h
  have := h i (List.mem_range.2 hi)
  simpa using this
theorem unl_pos {listed : Array Bool} {n k : Nat} (h : unl listed n = k + 1) : ∃ i, i < n ∧ listed.getD i true = false := by
  unfold unl at h
  have : (List.range n).filter (fun i => !listed.getD i true) ≠ [] := fun e => by rw [e] at h; simp at h
  obtain ⟨i, hi⟩ := List.exists_mem_of_ne_nil _ this
  rw [List.mem_filter, List.mem_range] at hi
  exact ⟨i, hi.1, by simpa using hi.2⟩

structure FillOK (ops : Array Oper) (N : Nat) (M : List Bool) (mks : List Filler) : Prop where
  sel : Region.noSelect ops = true
  lt : M.length = ops.size
  lex : lexOKq ops N (pickQ ops.toList M) = true
  back : ∀ i, i < M.length → ∀ o, ops[i]? = some o → ∀ e ∈ o.after, Region.binds .any e = true → e.on < i
  deps : ∀ i, M[i]? = some true → ∀ o, ops[i]? = some o → ∀ t ∈ o.looksAt ops, ∀ j, j < M.length → ∀ o', ops[j]? = some o' → o'.dst = some t → M[j]? = some true ∧ Region.waitsFor .any ops i j = true
  maker : ∀ i, M[i]? = some false → ∃ m ∈ mks, m.idx = i ∨ m.fidx = i
  apart : ∀ i, i < M.length → ∀ o, ops[i]? = some o → ∀ j, j < M.length → i ≠ j → ∀ o', ops[j]? = some o' → ∀ d, o.dst = some d → o'.dst ≠ some d
  ms : ∀ m ∈ mks, M[m.idx]? = some false ∧ m.slot < N ∧ ∃ o, ops[m.idx]? = some o ∧ o.dst = some m.slot ∧ o.guard = none
  fs : ∀ m ∈ mks, M[m.fidx]? = some false ∧ ∃ o, ops[m.fidx]? = some o ∧ o.dst = none ∧ o.guard = none ∧ Region.waitsFor .any ops m.fidx m.idx = true ∧
    ∀ t ∈ o.looksAt ops, t ≠ m.slot → ∀ j, j < M.length → ∀ o', ops[j]? = some o' → o'.dst = some t → M[j]? = some true ∧ Region.waitsFor .any ops m.fidx j = true
  nodup : (List.map (fun m : Filler => m.slot) mks).Nodup
  nodupf : (List.map (fun m : Filler => m.fidx) mks).Nodup

theorem fillOK {N : Nat} {M : List Bool} {ms : List Filler} (h : fillB ops N M ms = true) : FillOK ops N M ms := by
  simp only [fillB, Bool.and_eq_true, decide_eq_true_eq] at h
  obtain ⟨⟨⟨⟨⟨⟨h1, h2⟩, h6⟩, h7⟩, h8⟩, h9⟩, h10⟩ := h
  have hM : ∀ i b, M[i]? = some b → i < M.length ∧ M.getD i true = b := fun i b hb => ⟨(List.getElem?_eq_some_iff.1 hb).1, by simp [List.getD_eq_getElem?_getD, hb]⟩
  have hM2 : ∀ i, i < M.length → M[i]? = some (M.getD i true) := fun i hi => by simp [List.getD_eq_getElem?_getD, hi]
  have H7 := fun i (hi : i < M.length) => List.all_eq_true.1 h7 i (List.mem_range.2 hi)
  have H8 := fun m (hm : m ∈ ms) => List.all_eq_true.1 h8 m hm
  simp only [Bool.and_eq_true, decide_eq_true_eq] at H8
  refine ⟨h1, h2, h6, fun i hi o ho e he hb => ?_, fun i hi o ho t ht j hj o' ho' hd => ?_, fun i hi => ?_, fun i hi o ho j hj hij o' ho' d hd hd' => ?_, fun m hm => ?_, fun m hm => ?_, h9, h10⟩
  · have := H7 i hi
    simp only [ho, Bool.and_eq_true] at this
    have h' := Array.all_eq_true_iff_forall_mem.1 this.1.1 e he
    simpa [hb] using h'
  · obtain ⟨hi1, hi2⟩ := hM i true hi
    have := H7 i hi1
    simp only [ho, Bool.and_eq_true] at this
    have h' := this.1.2
    rw [if_pos hi2] at h'
    have h'' := List.all_eq_true.1 (List.all_eq_true.1 h' t ht) j (List.mem_range.2 hj)
    simp only [ho', hd, bne_self_eq_false, Bool.false_or, Bool.and_eq_true] at h''
    exact ⟨by rw [hM2 j hj, h''.1], h''.2⟩
  · obtain ⟨hi1, hi2⟩ := hM i false hi
    have := H7 i hi1
    have hlt : i < ops.size := by omega
    have ho : ops[i]? = some ops[i] := by simp [hlt]
    simp only [ho, Bool.and_eq_true] at this
    have h' := this.1.2
    rw [if_neg (by rw [hi2]; simp)] at h'
    obtain ⟨m, hm, he⟩ := List.any_eq_true.1 h'
    simp only [Bool.or_eq_true, decide_eq_true_eq] at he
    exact ⟨m, hm, he⟩
  · have := H7 i hi
    simp only [ho, Bool.and_eq_true] at this
    have h' := List.all_eq_true.1 this.2 j (List.mem_range.2 hj)
    simp [ho', hij, hd, hd'] at h'
  · obtain ⟨⟨⟨⟨⟨⟨g1, g1'⟩, g2⟩, g2'⟩, g3⟩, g4⟩, g5⟩ := H8 m hm
    have hlt : m.idx < ops.size := by omega
    have ho : ops[m.idx]? = some ops[m.idx] := by simp [hlt]
    simp only [ho, Bool.and_eq_true, beq_iff_eq, Option.isNone_iff_eq_none] at g4
    exact ⟨by rw [hM2 _ g1]; simpa using g2, g3, _, ho, g4.1, g4.2⟩
  · obtain ⟨⟨⟨⟨⟨⟨g1, g1'⟩, g2⟩, g2'⟩, g3⟩, g4⟩, g5⟩ := H8 m hm
    unfold fillerB at g5
    have hlt : m.fidx < ops.size := by omega
    have ho : ops[m.fidx]? = some ops[m.fidx] := by simp [hlt]
    simp only [ho, Bool.and_eq_true, Option.isNone_iff_eq_none] at g5
    obtain ⟨⟨⟨e1, e2⟩, e3⟩, e4⟩ := g5
    refine ⟨by rw [hM2 _ g1']; simpa using g2', _, ho, e1, e2, e3, fun t ht hne j hj o' ho' hd => ?_⟩
    have e5 := List.all_eq_true.1 e4 t ht
    simp only [Bool.or_eq_true, decide_eq_true_eq] at e5
    have e7 := e5.resolve_left hne
    unfold readsB at e7
    have e6 := List.all_eq_true.1 e7 j (List.mem_range.2 hj)
    simp only [ho', hd, bne_self_eq_false, Bool.false_or, Bool.and_eq_true] at e6
    exact ⟨by rw [hM2 j hj, e6.1], e6.2⟩

theorem exists_first' (p : Nat → Prop) [DecidablePred p] : ∀ n, (∃ j, j < n ∧ p j) → ∃ i, i < n ∧ p i ∧ ∀ j, j < i → ¬ p j
  | 0, h => by obtain ⟨j, hj, _⟩ := h; omega
  | n + 1, h => by
    by_cases h' : ∃ j, j < n ∧ p j
    · obtain ⟨i, hi, h1, h2⟩ := exists_first' p n h'
      exact ⟨i, by omega, h1, h2⟩
    · obtain ⟨j, hj, hp⟩ := h
      have : j = n := by
        rcases Nat.lt_or_ge j n with h1 | h1
        · exact absurd ⟨j, h1, hp⟩ h'
        · omega
      subst this
      exact ⟨j, by omega, hp, fun q hq hpq => h' ⟨q, hq, hpq⟩⟩
theorem nodup_fidx : ∀ ms : List Filler, (ms.map (·.fidx)).Nodup → ∀ m ∈ ms, ∀ m' ∈ ms, m.fidx = m'.fidx → m = m'
  | [], _, m, h, _, _, _ => by cases h
  | x :: ms, hn, m, h, m', h', he => by
    simp only [List.map_cons, List.nodup_cons] at hn
    rcases List.mem_cons.1 h with rfl | hh
    · rcases List.mem_cons.1 h' with rfl | hh'
      · rfl
      · exact (hn.1 (List.mem_map.2 ⟨m', hh', he.symm⟩)).elim
    · rcases List.mem_cons.1 h' with rfl | hh'
      · exact (hn.1 (List.mem_map.2 ⟨m, hh, he⟩)).elim
      · exact nodup_fidx ms hn.2 m hh m' hh' he
theorem nodup_slot : ∀ ms : List Filler, (ms.map (·.slot)).Nodup → ∀ m ∈ ms, ∀ m' ∈ ms, m.slot = m'.slot → m = m'
  | [], _, m, h, _, _, _ => by cases h
  | x :: ms, hn, m, h, m', h', he => by
    simp only [List.map_cons, List.nodup_cons] at hn
    rcases List.mem_cons.1 h with rfl | hh
    · rcases List.mem_cons.1 h' with rfl | hh'
      · rfl
      · exact (hn.1 (List.mem_map.2 ⟨m', hh', he.symm⟩)).elim
    · rcases List.mem_cons.1 h' with rfl | hh'
      · exact (hn.1 (List.mem_map.2 ⟨m, hh, he⟩)).elim
      · exact nodup_slot ms hn.2 m hh m' hh' he

theorem any_of_fill {w : World} {N : Nat} {M : List Bool} {ms : List Filler} {A : Act} {Q : Exit → Act → World → Prop} (hB : FillOK ops N M ms)
    (hmk : ∀ m ∈ ms, ∀ o, ops[m.idx]? = some o → ∀ ρ W, (execOp ρ o).run P W = .ok (.value (ptrV W.heap.size)) (W.alloc (.cells m.cells m.ty)))
    (hfl : ∀ m ∈ ms, ∀ o, ops[m.fidx]? = some o → ∀ (a : Act) W B, a.tmps[m.slot]? = some (ptrV B) → (∀ t ∈ o.looksAt ops, t ≠ m.slot → a.tmps[t]? = A.tmps[t]?) → W.heap[B]? = some (.cells m.cells m.ty) →
      ∃ W', (execOp a.eval o).run P W = .ok .skip W' ∧ W'.heap[B]? = some (.cells m.fill m.ty) ∧ (∀ B', B' ≠ B → W'.heap[B']? = W.heap[B']?) ∧ ∀ w, Ext w W → w.heap.size ≤ B → Ext w W')
    (hq : ∀ W1, Ext w W1 → ∀ o ∈ pickQ ops.toList M, ∃ v, YieldsIn P ops (fun w' => ∃ x : GW W1, w' = x.world) o v A ∧ ∀ d, o.dst = some d → A.tmps[d]? = some v) (hAs : A.tmps.size = N)
    (hT : ∀ b W, Ext w W → (∀ m ∈ ms, HeldB w m true (b m.idx) W) → (∀ m ∈ ms, ∀ m' ∈ ms, m.idx ≠ m'.idx → b m.idx ≠ b m'.idx) → Q .normal (putAll b A ms) W) :
    ∀ (f : Nat) (listed : Array Bool) (a : Act) (b : Nat → Nat) (W : World), unl listed M.length = f → FillSt P ops w N M ms A listed a b W → wpAny P .any ops Q f listed a W
  | 0, listed, a, b, W, hf, st => by
    have hall := unl_zero hf
    have hl' : ∀ i, i < M.length → listed.getD i false = true := fun i hi => by
      have h3 := hall i hi
      have h4 : i < listed.size := by rw [st.lsize, ← hB.lt]; exact hi
      simp [h4] at h3 ⊢; exact h3
    have hlm : ∀ m ∈ ms, listed.getD m.idx false = true := fun m hm => hl' _ (List.getElem?_eq_some_iff.1 (hB.ms m hm).1).1
    have hlf : ∀ m ∈ ms, listed.getD m.fidx false = true := fun m hm => hl' _ (List.getElem?_eq_some_iff.1 (hB.fs m hm).1).1
    have ha : a = putAll b A ms := by
      have ht : a.tmps = (putAll b A ms).tmps := by
        apply Array.ext_getElem?
        intro t
        by_cases h : ∃ m ∈ ms, m.slot = t
        · obtain ⟨m, hm, rfl⟩ := h
          obtain ⟨h1, h2, o, ho, hd, hg⟩ := hB.ms m hm
          rw [putAll_hit ms hB.nodup m hm (by rw [hAs]; exact h2), (st.made m hm (hlm m hm)).1]
        · rw [putAll_keep ms (fun m hm he => h ⟨m, hm, he⟩)]
          by_cases h' : ∃ i, i < M.length ∧ ∃ o, ops[i]? = some o ∧ o.dst = some t
          · obtain ⟨i, hi, o, ho, hd⟩ := h'
            have hM2 : M[i]? = some (M.getD i true) := by simp [List.getD_eq_getElem?_getD, hi]
            cases hm : M.getD i true with
            | true =>
              rw [hm] at hM2
              exact st.quiet i hM2 (hl' i hi) o ho t hd
            | false =>
              rw [hm] at hM2
              obtain ⟨m, hm2, hc⟩ := hB.maker i hM2
              rcases hc with rfl | rfl
              · obtain ⟨h1, h2, o', ho', hd', hg⟩ := hB.ms m hm2
                obtain rfl := Option.some.inj (ho.symm.trans ho')
                rw [hd] at hd'
                exact absurd ⟨m, hm2, (Option.some.inj hd').symm⟩ h
              · obtain ⟨h1, o', ho', hd', _⟩ := hB.fs m hm2
                obtain rfl := Option.some.inj (ho.symm.trans ho')
                rw [hd] at hd'; cases hd'
          · exact st.rest t (fun i hi o ho hd => h' ⟨i, hi, o, ho, hd⟩)
      have hd : a.defers = (putAll b A ms).defers := by rw [putAll_defers]; exact st.defers
      calc a = ⟨a.tmps, a.defers⟩ := rfl
        _ = _ := by rw [ht, hd]
    refine ⟨?_, ?_⟩
    · refine List.eq_nil_iff_forall_not_mem.2 fun j hj => ?_
      obtain ⟨h1, o, ho, _⟩ := mem_ready.1 hj
      have hjl : j < ops.size := (Array.getElem?_eq_some_iff.1 ho).1
      rw [hall j (by rw [hB.lt]; exact hjl)] at h1; cases h1
    · rw [ha]
      refine hT b W st.ext (fun m hm => ?_) (fun m hm m' hm' hne => st.inj m hm m' hm' hne (hlm m hm) (hlm m' hm'))
      have := (st.made m hm (hlm m hm)).2
      rwa [hlf m hm] at this
  | f + 1, listed, a, b, W, hf, st => by
    obtain ⟨i0, hi0, hu0⟩ := unl_pos hf
    obtain ⟨k0, hk0, hku, hkmin⟩ := exists_first' (fun i => listed.getD i true = false) M.length ⟨i0, hi0, hu0⟩
    have hsz := st.lsize
    have hlt := hB.lt
    have hready : k0 ∈ Region.ready .any ops listed := by
      refine mem_ready.2 ⟨hku, ops[k0]'(by omega), by simp [show k0 < ops.size by omega], fun e he hb => ?_⟩
      have h1 := hB.back k0 hk0 _ (by simp [show k0 < ops.size by omega]) e he hb
      have h2 := hkmin e.on h1
      have h4 : e.on < listed.size := by omega
      simp [h4] at h2 ⊢; exact h2
    refine ⟨fun h0 => (by rw [h0] at hready; cases hready), fun i hi => ?_⟩
    obtain ⟨hiu, o, ho, hall⟩ := mem_ready.1 hi
    have hin : i < M.length := by rw [hlt]; exact (Array.getElem?_eq_some_iff.1 ho).1
    have his : i < listed.size := by omega
    have hul := unl_set hin his hiu
    have hM2 : M[i]? = some (M.getD i true) := by simp [List.getD_eq_getElem?_getD, hin]
    have hset : ∀ j, (listed.setIfInBounds i true).getD j false = true → j = i ∨ listed.getD j false = true := fun j hj => by
      by_cases e : i = j
      · exact .inl e.symm
      · rw [getD_set_ne false e] at hj; exact .inr hj
    have hwait : ∀ j, Region.waitsFor .any ops i j = true → listed.getD j false = true := fun j g2 => by
      obtain ⟨oi, hoi, e, he, hb, hon⟩ := Region.waitsFor_spec g2
      obtain rfl := Option.some.inj (ho.symm.trans hoi)
      have h1 := hall e he hb
      rw [hon] at h1
      exact h1
    have hls : (listed.setIfInBounds i true).size = ops.size := by simp [hsz]
    cases hm : M.getD i true with
    | true =>
      rw [hm] at hM2
      have hq1 : ∀ m ∈ ms, m.idx ≠ i := fun m hm e => by
        have := (hB.ms m hm).1
        rw [e, hM2] at this; cases this
      have hq2 : ∀ m ∈ ms, m.fidx ≠ i := fun m hm e => by
        have := (hB.fs m hm).1
        rw [e, hM2] at this; cases this
      obtain ⟨v, hy, hv⟩ := hq W st.ext o (pickQ_mem _ _ i o (by simpa using ho) hM2)
      have hsel := Region.noSelect_spec hB.sel
      have hag : ∀ t ∈ o.looksAt ops, a.tmps[t]? = A.tmps[t]? := fun t ht => by
        by_cases h' : ∃ j, j < M.length ∧ ∃ o', ops[j]? = some o' ∧ o'.dst = some t
        · obtain ⟨j, hj, o', ho', hd⟩ := h'
          obtain ⟨g1, g2⟩ := hB.deps i hM2 o ho t ht j hj o' ho' hd
          exact st.quiet j g1 (hwait j g2) o' ho' t hd
        · exact st.rest t (fun j hj o' ho' hd => h' ⟨j, hj, o', ho', hd⟩)
      obtain ⟨e1, e2⟩ := eval_agree (ops := ops) o (fun cs b => hsel i o cs b ho) hag
      have hy' := hy.of_same e1 e2
      refine wpOp_of_qOp (C := fun w' => ∃ x : GW W, w' = x.world) ⟨⟨W, Below.refl _ _⟩, rfl⟩ (K := fun a' => a' = a.put o.dst v) (fun a' w' hC hK => ?_) (hy'.qOp ho rfl)
      obtain ⟨x, rfl⟩ := hC
      subst hK
      refine any_of_fill hB hmk hfl hq hAs hT f _ _ b _ (by omega) ⟨hls, st.ext.trans' x.ext, by rw [put_size]; exact st.size, by rw [put_defers]; exact st.defers, fun j hj hl o' ho' d hd => ?_, fun t ht => ?_, fun m hm' hl => ?_, fun m hm' m' hm'' hne hl hl2 => ?_, fun m hm' hl => ?_⟩
      · by_cases e : j = i
        · subst e
          obtain rfl := Option.some.inj (ho.symm.trans ho')
          have hds : d < a.tmps.size := by
            have := hv d hd
            rw [st.size, ← hAs]
            exact (Array.getElem?_eq_some_iff.1 this).1
          rw [hd, put_hit hds, hv d hd]
        · have hjn := (List.getElem?_eq_some_iff.1 hj).1
          rw [put_keep (fun he => hB.apart j hjn o' ho' i hin e o ho d hd he)]
          exact st.quiet j hj ((hset j hl).resolve_left e) o' ho' d hd
      · rw [put_keep (fun he => ht i hin o ho he)]
        exact st.rest t ht
      · obtain ⟨g1, g2, o', ho', hd', hg'⟩ := hB.ms m hm'
        have hne := hq1 m hm'
        obtain ⟨h1, h2⟩ := st.made m hm' ((hset m.idx hl).resolve_left hne)
        have hmn := (List.getElem?_eq_some_iff.1 g1).1
        rw [getD_set_ne false (Ne.symm (hq2 m hm'))]
        exact ⟨by rw [put_keep (fun he => hB.apart m.idx hmn o' ho' i hin hne o ho m.slot hd' he)]; exact h1, h2.ext x.ext⟩
      · exact st.inj m hm' m' hm'' hne ((hset m.idx hl).resolve_left (hq1 m hm')) ((hset m'.idx hl2).resolve_left (hq1 m' hm''))
      · exact getD_set_true (st.order m hm' ((hset m.fidx hl).resolve_left (hq2 m hm')))
    | false =>
      rw [hm] at hM2
      obtain ⟨m, hm2, hc⟩ := hB.maker i hM2
      rcases hc with rfl | rfl
      · obtain ⟨g1, g2, o', ho', hd', hg'⟩ := hB.ms m hm2
        obtain rfl := Option.some.inj (ho.symm.trans ho')
        have hrun := hmk m hm2 o ho a.eval W
        have hw : Region.wanted o (yielded ops a.tmps) = true := by unfold Region.wanted; rw [hg']
        have hnf : ∀ m' ∈ ms, m'.fidx ≠ m.idx := fun m' hm' e => by
          obtain ⟨_, o2, ho2, hd2, _⟩ := hB.fs m' hm'
          rw [e] at ho2
          obtain rfl := Option.some.inj (ho.symm.trans ho2)
          rw [hd'] at hd2; cases hd2
        unfold wpOp
        simp only [ho, hw, if_true]
        refine .inl ?_
        unfold Oper.wp
        rw [hrun]
        show wpAny P .any ops Q f (listed.setIfInBounds m.idx true) (a.put o.dst (ptrV W.heap.size)) (W.alloc (.cells m.cells m.ty))
        have hEa := ext_alloc W (.cells m.cells m.ty)
        refine any_of_fill hB hmk hfl hq hAs hT f _ _ (fun j => if j = m.idx then W.heap.size else b j) _ (by omega) ⟨hls, st.ext.trans' hEa, by rw [put_size]; exact st.size, by rw [put_defers]; exact st.defers, fun j hj hl o' ho' d hd => ?_, fun t ht => ?_, fun m' hm' hl => ?_, fun m1 hm1 m3 hm3 hne hl1 hl3 => ?_, fun m' hm' hl => ?_⟩
        · have hne : j ≠ m.idx := fun e => by rw [e, hM2] at hj; cases hj
          have hjn := (List.getElem?_eq_some_iff.1 hj).1
          rw [put_keep (fun he => hB.apart j hjn o' ho' m.idx hin hne o ho d hd he)]
          exact st.quiet j hj ((hset j hl).resolve_left hne) o' ho' d hd
        · rw [put_keep (fun he => ht m.idx hin o ho he)]
          exact st.rest t ht
        · rw [getD_set_ne false (Ne.symm (hnf m' hm'))]
          by_cases e : m'.idx = m.idx
          · have hsl : m'.slot = m.slot := by
              obtain ⟨k1, k2, o2, ho2, hd2, hg2⟩ := hB.ms m' hm'
              rw [e] at ho2
              obtain rfl := Option.some.inj (ho2.symm.trans ho)
              rw [hd2] at hd'
              exact Option.some.inj hd'
            have hmm : m' = m := nodup_slot ms hB.nodup m' hm' m hm2 hsl
            subst hmm
            have hnl : listed.getD m'.fidx false = false := by
              cases hx : listed.getD m'.fidx false with
              | false => rfl
              | true =>
                have := st.order m' hm' hx
                rw [getD_both hiu] at this; cases this
            rw [if_pos rfl, hd', put_hit (by rw [st.size]; exact g2), hnl]
            exact ⟨rfl, st.ext.size, heap_alloc_new W _⟩
          · rw [if_neg e]
            obtain ⟨h1, h2⟩ := st.made m' hm' ((hset m'.idx hl).resolve_left e)
            obtain ⟨k1, k2, o2, ho2, hd2, hg2⟩ := hB.ms m' hm'
            have hmn := (List.getElem?_eq_some_iff.1 k1).1
            exact ⟨by rw [put_keep (fun he => hB.apart m'.idx hmn o2 ho2 m.idx hin e o ho m'.slot hd2 he)]; exact h1, h2.ext hEa⟩
        · by_cases e1 : m1.idx = m.idx
          · have e3 : m3.idx ≠ m.idx := fun e => hne (e1.trans e.symm)
            rw [if_pos e1, if_neg e3]
            have := (st.made m3 hm3 ((hset m3.idx hl3).resolve_left e3)).2.lt
            omega
          · rw [if_neg e1]
            have hl1' := (hset m1.idx hl1).resolve_left e1
            by_cases e3 : m3.idx = m.idx
            · rw [if_pos e3]
              have := (st.made m1 hm1 hl1').2.lt
              omega
            · rw [if_neg e3]
              exact st.inj m1 hm1 m3 hm3 hne hl1' ((hset m3.idx hl3).resolve_left e3)
        · exact getD_set_true (st.order m' hm' ((hset m'.fidx hl).resolve_left (hnf m' hm')))
      · obtain ⟨g1, o', ho', hd', hg', hwt, hdep⟩ := hB.fs m hm2
        obtain rfl := Option.some.inj (ho.symm.trans ho')
        have hlm := hwait m.idx hwt
        obtain ⟨s1, s2⟩ := st.made m hm2 hlm
        have hnl : listed.getD m.fidx false = false := getD_both hiu
        rw [hnl] at s2
        obtain ⟨W', r1, r2, r3, r4⟩ := hfl m hm2 o ho a W (b m.idx) s1 (fun t ht hne => by
          by_cases h' : ∃ j, j < M.length ∧ ∃ o', ops[j]? = some o' ∧ o'.dst = some t
          · obtain ⟨j, hj, o', ho', hd⟩ := h'
            obtain ⟨k1, k2⟩ := hdep t ht hne j hj o' ho' hd
            exact st.quiet j k1 (hwait j k2) o' ho' t hd
          · exact st.rest t (fun j hj o' ho' hd => h' ⟨j, hj, o', ho', hd⟩)) s2.2
        have hw : Region.wanted o (yielded ops a.tmps) = true := by unfold Region.wanted; rw [hg']
        have hni : ∀ m' ∈ ms, m'.idx ≠ m.fidx := fun m' hm' e => by
          obtain ⟨_, _, o2, ho2, hd2, _⟩ := hB.ms m' hm'
          rw [e] at ho2
          obtain rfl := Option.some.inj (ho.symm.trans ho2)
          rw [hd'] at hd2; cases hd2
        unfold wpOp
        simp only [ho, hw, if_true]
        refine .inl ?_
        unfold Oper.wp
        rw [r1]
        show wpAny P .any ops Q f (listed.setIfInBounds m.fidx true) (a.put o.dst undef) W'
        rw [hd']
        refine any_of_fill hB hmk hfl hq hAs hT f _ _ b _ (by omega) ⟨hls, r4 w st.ext s2.1, st.size, st.defers, fun j hj hl o' ho' d hd => ?_, fun t ht => st.rest t ht, fun m' hm' hl => ?_, fun m1 hm1 m3 hm3 hne hl1 hl3 => ?_, fun m' hm' hl => ?_⟩
        · have hne : j ≠ m.fidx := fun e => by rw [e, hM2] at hj; cases hj
          exact st.quiet j hj ((hset j hl).resolve_left hne) o' ho' d hd
        · have hl' := (hset m'.idx hl).resolve_left (hni m' hm')
          obtain ⟨h1, h2⟩ := st.made m' hm' hl'
          refine ⟨h1, ?_⟩
          by_cases e : m'.fidx = m.fidx
          · have hmm : m' = m := nodup_fidx ms hB.nodupf m' hm' m hm2 e
            subst hmm
            have hx : (listed.setIfInBounds m'.fidx true).getD m'.fidx false = true := by simp [his]
            rw [hx]
            exact ⟨h2.1, r2⟩
          · rw [getD_set_ne false (Ne.symm e)]
            have hne : m'.idx ≠ m.idx := fun e2 => by
              obtain ⟨_, _, o2, ho2, hd2, _⟩ := hB.ms m' hm'
              obtain ⟨_, _, o3, ho3, hd3, _⟩ := hB.ms m hm2
              rw [e2] at ho2
              obtain rfl := Option.some.inj (ho2.symm.trans ho3)
              rw [hd2] at hd3
              have hmm : m' = m := nodup_slot ms hB.nodup m' hm' m hm2 (Option.some.inj hd3)
              exact e (by rw [hmm])
            exact ⟨h2.1, (r3 _ (st.inj m' hm' m hm2 hne hl' hlm)).trans h2.2⟩
        · exact st.inj m1 hm1 m3 hm3 hne ((hset m1.idx hl1).resolve_left (hni m1 hm1)) ((hset m3.idx hl3).resolve_left (hni m3 hm3))
        · by_cases e : m'.fidx = m.fidx
          · have hmm : m' = m := nodup_fidx ms hB.nodupf m' hm' m hm2 e
            subst hmm
            exact getD_set_true hlm
          · exact getD_set_true (st.order m' hm' ((hset m'.fidx hl).resolve_left e))
end

/-- One walk of the quiet operations, in a world that has grown as it likes; the frame behind it, the makers' slots apart, is A; every block is made and filled. -/
theorem wp_region_fill {P : Program} {id : Nat} {Q : Exit → Act → World → Prop} {a A : Act} {w : World} {l : List Oper} (N : Nat) (M : List Bool) (ms : List Filler) (hm : P.follows .mixedOrders = true) (hB : fillB l.toArray N M ms = true) (hN : a.tmps.size = N)
    (hmk : ∀ m ∈ ms, ∀ o, l.toArray[m.idx]? = some o → ∀ ρ W, (execOp ρ o).run P W = .ok (.value (ptrV W.heap.size)) (W.alloc (.cells m.cells m.ty)))
    (h : ∀ W1, Ext w W1 → wpQuiet P l.toArray (fun w' => ∃ x : GW W1, w' = x.world) (fun a' => a' = A) (pickQ l M) a)
    (hfl : ∀ m ∈ ms, ∀ o, l.toArray[m.fidx]? = some o → ∀ (a : Act) W B, a.tmps[m.slot]? = some (ptrV B) → (∀ t ∈ o.looksAt l.toArray, t ≠ m.slot → a.tmps[t]? = A.tmps[t]?) → W.heap[B]? = some (.cells m.cells m.ty) →
      ∃ W', (execOp a.eval o).run P W = .ok .skip W' ∧ W'.heap[B]? = some (.cells m.fill m.ty) ∧ (∀ B', B' ≠ B → W'.heap[B']? = W.heap[B']?) ∧ ∀ w, Ext w W → w.heap.size ≤ B → Ext w W')
    (hT : ∀ b W, Ext w W → (∀ m ∈ ms, HeldB w m true (b m.idx) W) → (∀ m ∈ ms, ∀ m' ∈ ms, m.idx ≠ m'.idx → b m.idx ≠ b m'.idx) → Q .normal (putAll b A ms) W) : (Code.region id l.toArray true).wp P Q a w := by
  have hok := fillOK hB
  have hsel : ∀ o : Oper, o ∈ l.toArray → ∀ cs b, o.op ≠ .select cs b := fun o ho cs b => by
    obtain ⟨i, hi, rfl⟩ := Array.getElem_of_mem ho
    exact Region.noSelect_spec hok.sel i _ cs b (by simp [show i < l.length by simpa using hi])
  have hsub : ∀ o ∈ pickQ l M, o ∈ l.toArray := fun o ho => by
    obtain ⟨i, hi, _⟩ := pickQ_sub l M o ho
    simpa using List.mem_of_getElem? hi
  have hlex : ∀ W1, Ext w W1 → _ := fun W1 hE => lex_yields hsel (pickQ l M) a (by simpa using hok.lex) hsub hN (h W1 hE)
  obtain ⟨_, h2, h3, h4⟩ := hlex w (Below.refl _ _)
  refine wp_region_any hm ?_
  have hu : unl (Array.replicate l.toArray.size false) M.length = l.toArray.size := by
    unfold unl
    have hlt := hok.lt
    have : (List.range M.length).filter (fun i => !(Array.replicate l.toArray.size false).getD i true) = List.range M.length := by
      refine List.filter_eq_self.2 fun i hi => ?_
      have := List.mem_range.1 hi
      have h5 : i < l.toArray.size := by omega
      simp at h5
      simp [h5]
    rw [this, List.length_range]; exact hlt
  exact any_of_fill (Q := Q) (w := w) (P := P) (A := A) hok hmk hfl (fun W1 hE o ho => (hlex W1 hE).1 o (by simpa using ho)) h3 hT _ (Array.replicate l.toArray.size false) a (fun _ => 0) { w with drawn := w.drawn + 1 } hu
    ⟨by simp, ext_drew w, hN, h4.symm, fun j _ hl => (by rw [getD_replicate_false] at hl; cases hl), fun t ht => (h2 t (fun o ho hd => by
      obtain ⟨i, hi, hi2⟩ := pickQ_sub l M o ho
      exact ht i (List.getElem?_eq_some_iff.1 hi2).1 o (by simpa using hi) hd)).symm, fun m _ hl => (by rw [getD_replicate_false] at hl; cases hl), fun m _ m' _ _ hl => (by rw [getD_replicate_false] at hl; cases hl), fun m _ hl => (by rw [getD_replicate_false] at hl; cases hl)⟩
end Go.Proofs.Ytbejgbflipoboaa.FillN
/- A list of bools, told; in a block of the call's own. -/
namespace Go.Proofs.Ytbejgbflipoboaa
open Go.RowKit

/-- The slice address a leads to the bools l. -/
def Bools (w : World) (a : Option Addr) (l : List Bool) : Prop :=
  ∀ j, j < l.length → ∃ b off, a = some ⟨b, off, none⟩ ∧ b < w.heap.size ∧ w.cell? ⟨b, off + j, none⟩ = some (.bool (l[j]?.getD false))
theorem Bools.ext {w w' : World} {a : Option Addr} {l : List Bool} (h : Bools w a l) (hE : Ext w w') : Bools w' a l := fun j hj => by
  obtain ⟨b, off, ha, hb, hc⟩ := h j hj
  exact ⟨b, off, ha, Nat.lt_of_lt_of_le hb hE.size, (hE.cell' hb).trans hc⟩
def gb (l : List Bool) (i : Nat) : Bool := l[i]?.getD false
theorem gb_set (l : List Bool) (i j : Nat) (v : Bool) (hi : i < l.length) : gb (l.set i v) j = if i = j then v else gb l j := by
  unfold gb
  rw [List.getElem?_set]
  by_cases h : i = j
  · subst h; simp [hi]
  · simp [h]
/-- a list of bools that lies in the block g, made since the world had the size B -/
def OwnB (W : World) (B g n : Nat) (l : List Bool) : Prop := W.ownsRow B 4 1 (.slice (some ⟨g, 0, none⟩) n n) n (l.map .bool)
section
variable {W X : World} {B g n : Nat} {l : List Bool}
theorem OwnB.len (h : OwnB W B g n l) : l.length = n := by have := h.1; simp at this; omega
theorem OwnB.slot (h : OwnB W B g n l) : g < W.heap.size ∧ B ≤ g := by
  rcases h.2 with ⟨e, _⟩ | ⟨g', cap', cur, e, hb, hg, h1, _⟩
  · simp at e
  · simp at e
    obtain ⟨rfl, rfl⟩ := e
    exact ⟨(Array.getElem?_eq_some_iff.1 hg).1, hb⟩
theorem OwnB.cell {i : Nat} (h : OwnB W B g n l) (hi : i < l.length) : W.cell? ⟨g, i, none⟩ = some (.bool (l[i]?.getD false)) := by
  refine (World.ownsRow.cellAt h i (by have := h.len; omega)).trans ?_
  rw [List.getElem?_map]; simp [hi]
theorem OwnB.store (h : OwnB W B g n l) (i : Nat) (v : Bool) : OwnB (W.setCell ⟨g, i, none⟩ (.bool v)) B g n (l.set i v) := by
  have hst := (World.ownsRow.stored h i (.bool v)).1
  rw [← List.map_set] at hst
  exact hst
theorem OwnB.ext (h : OwnB W B g n l) (hE : Ext W X) : OwnB X B g n l := row_ext h hE
theorem OwnB.froz (h : OwnB W B g n l) (i : Nat) : W.frozen? ⟨g, i, none⟩ = false := World.ownsRow.frozenAt h i
theorem OwnB.bools (h : OwnB W B g n l) : Bools W (some ⟨g, 0, none⟩) l := fun j hj => ⟨g, 0, rfl, h.slot.1, by rw [Nat.zero_add]; exact h.cell hj⟩
end
end Go.Proofs.Ytbejgbflipoboaa
/- A map from int to int that the call itself has made, told by a partial function; looked up with 'ok'. -/
namespace Go.Proofs.Ytbejgbflipoboaa
open Go.RowKit
/-- block b is a map of at most n entries from int to int: f x at x -/
def MapO (W : World) (b : Nat) (f : Int → Option Int) (n : Nat) : Prop :=
  ∃ D : DataW Unit, Maps.IsMap D ∧ W.ownsMap Try.prog 3 (plainElem Try.prog 3) b n D ∧ ∀ x, (Lit.int .i64 x).wf = true → Maps.has D (.int .i64 x) = (f x).isSome ∧ D.atKey (.int .i64 x) (.lit (.int .i64 0)) = .lit (.int .i64 ((f x).getD 0))
def updO (f : Int → Option Int) (x v : Int) : Int → Option Int := fun y => if y = x then some v else f y
theorem wf_smallO {x : Int} (h : -1000000000000000000 ≤ x ∧ x ≤ 1000000000000000000) : (Lit.int .i64 x).wf = true := by
  have h1 : IntKind.i64.min = -9223372036854775808 := rfl
  have h2 : IntKind.i64.max = 9223372036854775807 := rfl
  show (decide (IntKind.i64.min ≤ x) && decide (x ≤ IntKind.i64.max)) = true
  rw [h1, h2, Bool.and_eq_true, decide_eq_true_eq, decide_eq_true_eq]
  omega
section
variable {W X : World} {b n : Nat} {f : Int → Option Int}
theorem MapO.made (W : World) : MapO (W.alloc (.map #[] 0)) W.heap.size (fun _ => none) 0 :=
  ⟨.map [], Maps.isMap_empty, World.ownsMap_made W _ _ _, fun _ _ => ⟨rfl, rfl⟩⟩
theorem MapO.lt (h : MapO W b f n) : b < W.heap.size := by obtain ⟨D, _, h, _⟩ := h; exact h.lt
theorem MapO.kept {row : Option Nat} (h : MapO W b f n) (hg : W.grownBy X row) (hne : some b ≠ row) : MapO X b f n := by
  obtain ⟨D, h1, h2, h3⟩ := h
  exact ⟨D, h1, h2.kept hg hne, h3⟩
theorem MapO.ext (h : MapO W b f n) (hE : Ext W X) : MapO X b f n := h.kept (row := none) ⟨hE.os, hE.tape, hE.output, hE.size, fun i hi _ => hE.block i hi⟩ (by simp)
theorem MapO.congr (h : MapO W b f n) {g : Int → Option Int} (e : ∀ x, f x = g x) : MapO W b g n := by
  obtain ⟨D, h1, h2, h3⟩ := h
  exact ⟨D, h1, h2, fun x hx => by rw [← e x]; exact h3 x hx⟩
theorem MapO.mono (h : MapO W b f n) {m : Nat} (hm : n ≤ m) : MapO W b f m := by
  obtain ⟨D, h1, h2, h3⟩ := h
  exact ⟨D, h1, h2.mono hm, h3⟩
set_option maxRecDepth 20000 in
theorem MapO.look {t : TypeId} (ht : Try.prog.underlying t = some (.map 3 3)) (h : MapO W b f n) {x : Int} (hx : -1000000000000000000 ≤ x ∧ x ≤ 1000000000000000000) : (Instr.lookup t (.map (some b)) (.int .i64 x) true).run Try.prog W = .ok (.tuple #[.int .i64 ((f x).getD 0), .bool (f x).isSome]) W := by
  obtain ⟨D, h1, h2, h3⟩ := h
  obtain ⟨h4, h5⟩ := h3 x (wf_smallO hx)
  have hw0 : (Lit.int .i64 0).wf = true := by decide
  obtain ⟨v, ps, hr, hv⟩ := h2.look_ok (Maps.int_keyed Try.underlying3) ht (z := .int .i64 0) (by kernel_rfl) (plainElem_int Try.underlying3 hw0) (Maps.keyOf_int_mk Try.underlying3 (wf_smallO hx))
  obtain ⟨c, rfl, hc, _⟩ := plainElem_int_inv Try.underlying3 hv
  simp only [Prod.mk.injEq] at hc
  have hc1 := hc.1
  rw [h5] at hc1
  injection hc1 with hc1
  injection hc1 with _ hc1
  rw [hr, h4, hc1]
set_option maxRecDepth 20000 in
theorem MapO.store {t : TypeId} (ht : Try.prog.underlying t = some (.map 3 3)) (h : MapO W b f n) (hn : n ≤ 1000000) {x v : Int} (hx : -1000000000000000000 ≤ x ∧ x ≤ 1000000000000000000) (hv : -1000000000000000000 ≤ v ∧ v ≤ 1000000000000000000) :
    ∃ X, (Instr.mapUpdate t (.map (some b)) (.int .i64 x) (.int .i64 v)).run Try.prog W = .ok () X ∧ MapO X b (updO f x v) (n + 1) ∧ W.grownBy X (some b) := by
  obtain ⟨D, h1, h2, h3⟩ := h
  obtain ⟨X, hr, hX, hg⟩ := h2.update (Maps.int_keyed Try.underlying3) ht (by unfold maxLen; omega) (Maps.keyOf_int_mk Try.underlying3 (wf_smallO hx)) (plainElem_int Try.underlying3 (wf_smallO hv))
  refine ⟨X, hr, ⟨_, h1.put _ _, hX, fun y hy => ?_⟩, hg⟩
  unfold updO
  by_cases e : y = x
  · subst e
    rw [if_pos rfl, Maps.atKey_put_same h1 (by simp [WideAt.IsKeyLit]), Maps.has_put_same h1 (by simp [WideAt.IsKeyLit])]
    exact ⟨rfl, rfl⟩
  · rw [if_neg e, Maps.atKey_put_other (by intro e2; injection e2; contradiction), Maps.has_put_other (by intro e2; injection e2; contradiction)]
    exact h3 y hy
end
end Go.Proofs.Ytbejgbflipoboaa
/- A map from int to bool that the call itself has made, told by a function; looked up without 'ok'; its length. -/
namespace Go.Proofs.Ytbejgbflipoboaa
open Go.RowKit
/-- block b is a map of at most n entries from int to bool: f x at x -/
def MapB (W : World) (b : Nat) (f : Int → Bool) (n : Nat) : Prop :=
  ∃ D : DataW Unit, Maps.IsMap D ∧ W.ownsMap Try.prog 3 (plainElem Try.prog 4) b n D ∧ ∀ x, (Lit.int .i64 x).wf = true → D.atKey (.int .i64 x) (.lit (.bool false)) = .lit (.bool (f x))
def updB (f : Int → Bool) (x : Int) (v : Bool) : Int → Bool := fun y => if y = x then v else f y
theorem wf_smallB {x : Int} (h : -1000000000000000000 ≤ x ∧ x ≤ 1000000000000000000) : (Lit.int .i64 x).wf = true := by
  have h1 : IntKind.i64.min = -9223372036854775808 := rfl
  have h2 : IntKind.i64.max = 9223372036854775807 := rfl
  show (decide (IntKind.i64.min ≤ x) && decide (x ≤ IntKind.i64.max)) = true
  rw [h1, h2, Bool.and_eq_true, decide_eq_true_eq, decide_eq_true_eq]
  omega
theorem plainElem_bool_inv {H : Type} {P : Program} {e : TypeId} (he : P.underlying e = some .bool) {v : Value} {z : DataW H × List MemPlace} (h : plainElem P e v = some z) : ∃ a, v = .bool a ∧ z = (.lit (.bool a), []) := by
  unfold plainElem at h
  rw [he] at h
  cases v <;> simp at h
  exact ⟨_, rfl, h.symm⟩
section
variable {W X : World} {b n : Nat} {f : Int → Bool}
theorem MapB.made (W : World) : MapB (W.alloc (.map #[] 0)) W.heap.size (fun _ => false) 0 :=
  ⟨.map [], Maps.isMap_empty, World.ownsMap_made W _ _ _, fun _ _ => rfl⟩
theorem MapB.lt (h : MapB W b f n) : b < W.heap.size := by obtain ⟨D, _, h, _⟩ := h; exact h.lt
theorem MapB.kept {row : Option Nat} (h : MapB W b f n) (hg : W.grownBy X row) (hne : some b ≠ row) : MapB X b f n := by
  obtain ⟨D, h1, h2, h3⟩ := h
  exact ⟨D, h1, h2.kept hg hne, h3⟩
theorem MapB.ext (h : MapB W b f n) (hE : Ext W X) : MapB X b f n := h.kept (row := none) ⟨hE.os, hE.tape, hE.output, hE.size, fun i hi _ => hE.block i hi⟩ (by simp)
theorem MapB.congr (h : MapB W b f n) {g : Int → Bool} (e : ∀ x, f x = g x) : MapB W b g n := by
  obtain ⟨D, h1, h2, h3⟩ := h
  exact ⟨D, h1, h2, fun x hx => by rw [← e x]; exact h3 x hx⟩
theorem MapB.mono (h : MapB W b f n) {m : Nat} (hm : n ≤ m) : MapB W b f m := by
  obtain ⟨D, h1, h2, h3⟩ := h
  exact ⟨D, h1, h2.mono hm, h3⟩
set_option maxRecDepth 20000 in
theorem MapB.look {t : TypeId} (ht : Try.prog.underlying t = some (.map 3 4)) (h : MapB W b f n) {x : Int} (hx : -1000000000000000000 ≤ x ∧ x ≤ 1000000000000000000) : (Instr.lookup t (.map (some b)) (.int .i64 x) false).run Try.prog W = .ok (.bool (f x)) W := by
  obtain ⟨D, h1, h2, h3⟩ := h
  have h4 := h3 x (wf_smallB hx)
  obtain ⟨v, ps, hr, hv⟩ := h2.lookup (Maps.int_keyed Try.underlying3) ht (z := .bool false) (by kernel_rfl) (plainElem_bool Try.underlying4 false) (Maps.keyOf_int_mk Try.underlying3 (wf_smallB hx))
  obtain ⟨c, rfl, hc⟩ := plainElem_bool_inv Try.underlying4 hv
  simp only [Prod.mk.injEq] at hc
  have hc1 := hc.1
  rw [h4] at hc1
  injection hc1 with hc1
  injection hc1 with hc1
  rw [hr, hc1]
set_option maxRecDepth 20000 in
theorem MapB.store {t : TypeId} (ht : Try.prog.underlying t = some (.map 3 4)) (h : MapB W b f n) (hn : n ≤ 1000000) {x : Int} {v : Bool} (hx : -1000000000000000000 ≤ x ∧ x ≤ 1000000000000000000) :
    ∃ X, (Instr.mapUpdate t (.map (some b)) (.int .i64 x) (.bool v)).run Try.prog W = .ok () X ∧ MapB X b (updB f x v) (n + 1) ∧ W.grownBy X (some b) := by
  obtain ⟨D, h1, h2, h3⟩ := h
  obtain ⟨X, hr, hX, hg⟩ := h2.update (Maps.int_keyed Try.underlying3) ht (by unfold maxLen; omega) (Maps.keyOf_int_mk Try.underlying3 (wf_smallB hx)) (plainElem_bool Try.underlying4 v)
  refine ⟨X, hr, ⟨_, h1.put _ _, hX, fun y hy => ?_⟩, hg⟩
  unfold updB
  by_cases e : y = x
  · subst e
    rw [if_pos rfl, Maps.atKey_put_same h1 (by simp [WideAt.IsKeyLit])]
  · rw [if_neg e, Maps.atKey_put_other (by intro e2; injection e2; contradiction), h3 y hy]
/-- its length: none if nothing was laid in, some if something is true in it -/
theorem MapB.len {t : TypeId} (ht : Try.prog.underlying t = some (.map 3 4)) (h : MapB W b f n) (ty : TypeId) : ∃ s : Nat, (Builtin.len_ #[t] ty #[.map (some b)]).run Try.prog W = .ok (.int .i64 s) W ∧ s ≤ n ∧ ∀ x, (Lit.int .i64 x).wf = true → f x = true → 0 < s := by
  obtain ⟨D, ⟨es, rfl⟩, h2, h3⟩ := h
  refine ⟨Maps.size (.map es), h2.len ht ty, h2.size_le, fun x hx hf => ?_⟩
  rw [Maps.size_eq]
  refine Nat.pos_of_ne_zero fun h0 => ?_
  have := h3 x hx
  rw [List.eq_nil_of_length_eq_zero h0, hf] at this
  injection this with this
  injection this with this
  simp at this
end
end Go.Proofs.Ytbejgbflipoboaa
/- Flat records that a slice holds, read as lists; slices of slices. Printed by wip/gen/genrec.py. -/
namespace Go.Proofs.Ytbejgbflipoboaa
open Go.ChangeShapes Go.WideShapes Go.ChangeAt Go.RowKit Go.Deep

structure Rarc where
  fr : Int
  to : Int
  ln : Int
  rd : Int
  wy : Int
  deriving DecidableEq, Inhabited
def Rarcs (w : World) (a : Option Addr) (l : List Rarc) : Prop :=
  ∀ j, (hj : j < l.length) → ∃ b off, a = some ⟨b, off, none⟩ ∧ b < w.heap.size ∧ w.cell? ⟨b, off + j * 5, none⟩ = some (.int .i64 l[j].fr) ∧ w.cell? ⟨b, off + j * 5 + 1, none⟩ = some (.int .i64 l[j].to) ∧ w.cell? ⟨b, off + j * 5 + 2, none⟩ = some (.int .i64 l[j].ln) ∧ w.cell? ⟨b, off + j * 5 + 3, none⟩ = some (.int .i64 l[j].rd) ∧ w.cell? ⟨b, off + j * 5 + 4, none⟩ = some (.int .i64 l[j].wy)
theorem Rarcs.ext {w w' : World} {a : Option Addr} {l : List Rarc} (h : Rarcs w a l) (hE : Ext w w') : Rarcs w' a l := fun j hj => by
  obtain ⟨b, off, ha, hb, h1, h2, h3, h4, h5⟩ := h j hj
  exact ⟨b, off, ha, Nat.lt_of_lt_of_le hb hE.size, (hE.cell' hb).trans h1, (hE.cell' hb).trans h2, (hE.cell' hb).trans h3, (hE.cell' hb).trans h4, (hE.cell' hb).trans h5⟩
def rarcV (l : List Rarc) : List Value := l.flatMap fun s => [.int .i64 s.fr, .int .i64 s.to, .int .i64 s.ln, .int .i64 s.rd, .int .i64 s.wy]
theorem rarcV_length (l : List Rarc) : (rarcV l).length = l.length * 5 := by
  induction l with
  | nil => rfl
  | cons s l ih => simp only [rarcV, List.flatMap_cons, List.length_append, List.length_cons, List.length_nil] at ih ⊢; omega
theorem rarcV_append (l k : List Rarc) : rarcV (l ++ k) = rarcV l ++ rarcV k := by simp [rarcV]
theorem rarcV_one (s : Rarc) : rarcV [s] = [.int .i64 s.fr, .int .i64 s.to, .int .i64 s.ln, .int .i64 s.rd, .int .i64 s.wy] := by simp [rarcV]
theorem rarcV_at : ∀ (l : List Rarc) (i : Nat) (hi : i < l.length), (rarcV l)[i * 5]? = some (.int .i64 l[i].fr) ∧ (rarcV l)[i * 5 + 1]? = some (.int .i64 l[i].to) ∧ (rarcV l)[i * 5 + 2]? = some (.int .i64 l[i].ln) ∧ (rarcV l)[i * 5 + 3]? = some (.int .i64 l[i].rd) ∧ (rarcV l)[i * 5 + 4]? = some (.int .i64 l[i].wy)
  | s :: l, 0, _ => by simp [rarcV]
  | s :: l, i + 1, hi => by
    have h := rarcV_at l i (by simpa using hi)
    have e : rarcV (s :: l) = [.int .i64 s.fr, .int .i64 s.to, .int .i64 s.ln, .int .i64 s.rd, .int .i64 s.wy] ++ rarcV l := by simp [rarcV]
    rw [e]
    refine ⟨?_, ?_, ?_, ?_, ?_⟩
    · rw [List.getElem?_append_right (by simp; omega), show (i + 1) * 5 - [Value.int .i64 s.fr, .int .i64 s.to, .int .i64 s.ln, .int .i64 s.rd, .int .i64 s.wy].length = i * 5 by simp; omega]; exact h.1
    · rw [List.getElem?_append_right (by simp; omega), show (i + 1) * 5 + 1 - [Value.int .i64 s.fr, .int .i64 s.to, .int .i64 s.ln, .int .i64 s.rd, .int .i64 s.wy].length = i * 5 + 1 by simp; omega]; exact h.2.1
    · rw [List.getElem?_append_right (by simp; omega), show (i + 1) * 5 + 2 - [Value.int .i64 s.fr, .int .i64 s.to, .int .i64 s.ln, .int .i64 s.rd, .int .i64 s.wy].length = i * 5 + 2 by simp; omega]; exact h.2.2.1
    · rw [List.getElem?_append_right (by simp; omega), show (i + 1) * 5 + 3 - [Value.int .i64 s.fr, .int .i64 s.to, .int .i64 s.ln, .int .i64 s.rd, .int .i64 s.wy].length = i * 5 + 3 by simp; omega]; exact h.2.2.2.1
    · rw [List.getElem?_append_right (by simp; omega), show (i + 1) * 5 + 4 - [Value.int .i64 s.fr, .int .i64 s.to, .int .i64 s.ln, .int .i64 s.rd, .int .i64 s.wy].length = i * 5 + 4 by simp; omega]; exact h.2.2.2.2
theorem rarcV_one_cell (l : List Rarc) : ∀ u ∈ rarcV l, u.oneCell' = true := by
  intro u hu
  simp only [rarcV, List.mem_flatMap] at hu
  obtain ⟨s, _, hs⟩ := hu
  simp at hs
  rcases hs with rfl | rfl | rfl | rfl | rfl <;> rfl
theorem reads_rarcs {w : World} {a : Option Addr} {l : List Rarc} (h : Rarcs w a l) : Reads w w.heap.size 5 a l.length (rarcV l) := by
  refine ⟨rarcV_length l, fun h0 => ?_⟩
  obtain ⟨b, off, rfl, hb, _⟩ := h 0 h0
  refine ⟨_, rfl, hb, fun j u hu => ?_⟩
  rw [add_at]
  have hj : j < l.length * 5 := by
    have := (List.getElem?_eq_some_iff.1 hu).1
    rwa [rarcV_length] at this
  have hi : j / 5 < l.length := by omega
  obtain ⟨b', off', he, _, c0, c1, c2, c3, c4⟩ := h (j / 5) hi
  simp only [Option.some.injEq, Addr.mk.injEq] at he
  obtain ⟨rfl, rfl, -⟩ := he
  obtain ⟨v0, v1, v2, v3, v4⟩ := rarcV_at l (j / 5) hi
  have h3 : j % 5 = 0 ∨ j % 5 = 1 ∨ j % 5 = 2 ∨ j % 5 = 3 ∨ j % 5 = 4 := by omega
  rcases h3 with h3 | h3 | h3 | h3 | h3
  · have e : j = j / 5 * 5 := by omega
    rw [e] at hu ⊢
    rw [v0] at hu
    rw [← hu]; exact c0
  · have e : j = j / 5 * 5 + 1 := by omega
    rw [e] at hu ⊢
    rw [v1] at hu
    rw [← hu]; exact c1
  · have e : j = j / 5 * 5 + 2 := by omega
    rw [e] at hu ⊢
    rw [v2] at hu
    rw [← hu]; exact c2
  · have e : j = j / 5 * 5 + 3 := by omega
    rw [e] at hu ⊢
    rw [v3] at hu
    rw [← hu]; exact c3
  · have e : j = j / 5 * 5 + 4 := by omega
    rw [e] at hu ⊢
    rw [v4] at hu
    rw [← hu]; exact c4
theorem rarcs_of_row {w : World} {base n : Nat} {v : Value} {T : TypeId} {l : List Rarc} (h : w.ownsRow base T 5 v n (rarcV l)) : ∃ a c, v = .slice a l.length c ∧ Rarcs w a l := by
  have hn : l.length = n := by have := h.1; rw [rarcV_length] at this; omega
  rcases h.2 with ⟨rfl, h0⟩ | ⟨g, cap, cur, rfl, hb, hg, h1, h2, h3, h4⟩
  · exact ⟨none, 0, by rw [hn, h0], fun j hj => by omega⟩
  · refine ⟨_, cap, by rw [hn], fun j hj => ⟨g, 0, rfl, (Array.getElem?_eq_some_iff.1 hg).1, ?_⟩⟩
    obtain ⟨v0, v1, v2, v3, v4⟩ := rarcV_at l j hj
    have c0 := h.cells (g := g) rfl _ _ v0
    have c1 := h.cells (g := g) rfl _ _ v1
    have c2 := h.cells (g := g) rfl _ _ v2
    have c3 := h.cells (g := g) rfl _ _ v3
    have c4 := h.cells (g := g) rfl _ _ v4
    rw [add_at] at c0 c1 c2 c3 c4
    exact ⟨c0, by simpa [Nat.add_assoc] using c1, by simpa [Nat.add_assoc] using c2, by simpa [Nat.add_assoc] using c3, by simpa [Nat.add_assoc] using c4⟩
theorem rarcs_new1 (w : World) (s : Rarc) (T : TypeId) : Rarcs (w.alloc (.cells #[.int .i64 s.fr, .int .i64 s.to, .int .i64 s.ln, .int .i64 s.rd, .int .i64 s.wy] T)) (some ⟨w.heap.size, 0, none⟩) [s] := by
  intro j hj
  refine ⟨_, _, rfl, by simp, ?_⟩
  match j, hj with
  | 0, _ => simp
theorem rarcV_set0 : ∀ (l : List Rarc) (k : Nat) (hk : k < l.length) (n : Int), (rarcV l).set (k * 5) (.int .i64 n) = rarcV (l.set k { l[k] with fr := n })
  | s :: l, 0, _, n => by simp [rarcV]
  | s :: l, k + 1, hk, n => by
    have h := rarcV_set0 l k (by simpa using hk) n
    have e : ∀ (t : Rarc) (m : List Rarc), rarcV (t :: m) = [.int .i64 t.fr, .int .i64 t.to, .int .i64 t.ln, .int .i64 t.rd, .int .i64 t.wy] ++ rarcV m := fun t m => by simp [rarcV]
    rw [List.set_cons_succ, e, e, List.set_append_right _ _ (by simp; omega), show (k + 1) * 5 - [Value.int .i64 s.fr, .int .i64 s.to, .int .i64 s.ln, .int .i64 s.rd, .int .i64 s.wy].length = k * 5 by simp; omega, h]
    rfl
theorem rarcV_set1 : ∀ (l : List Rarc) (k : Nat) (hk : k < l.length) (n : Int), (rarcV l).set (k * 5 + 1) (.int .i64 n) = rarcV (l.set k { l[k] with to := n })
  | s :: l, 0, _, n => by simp [rarcV]
  | s :: l, k + 1, hk, n => by
    have h := rarcV_set1 l k (by simpa using hk) n
    have e : ∀ (t : Rarc) (m : List Rarc), rarcV (t :: m) = [.int .i64 t.fr, .int .i64 t.to, .int .i64 t.ln, .int .i64 t.rd, .int .i64 t.wy] ++ rarcV m := fun t m => by simp [rarcV]
    rw [List.set_cons_succ, e, e, List.set_append_right _ _ (by simp; omega), show (k + 1) * 5 + 1 - [Value.int .i64 s.fr, .int .i64 s.to, .int .i64 s.ln, .int .i64 s.rd, .int .i64 s.wy].length = k * 5 + 1 by simp; omega, h]
    rfl
theorem rarcV_set2 : ∀ (l : List Rarc) (k : Nat) (hk : k < l.length) (n : Int), (rarcV l).set (k * 5 + 2) (.int .i64 n) = rarcV (l.set k { l[k] with ln := n })
  | s :: l, 0, _, n => by simp [rarcV]
  | s :: l, k + 1, hk, n => by
    have h := rarcV_set2 l k (by simpa using hk) n
    have e : ∀ (t : Rarc) (m : List Rarc), rarcV (t :: m) = [.int .i64 t.fr, .int .i64 t.to, .int .i64 t.ln, .int .i64 t.rd, .int .i64 t.wy] ++ rarcV m := fun t m => by simp [rarcV]
    rw [List.set_cons_succ, e, e, List.set_append_right _ _ (by simp; omega), show (k + 1) * 5 + 2 - [Value.int .i64 s.fr, .int .i64 s.to, .int .i64 s.ln, .int .i64 s.rd, .int .i64 s.wy].length = k * 5 + 2 by simp; omega, h]
    rfl
theorem rarcV_set3 : ∀ (l : List Rarc) (k : Nat) (hk : k < l.length) (n : Int), (rarcV l).set (k * 5 + 3) (.int .i64 n) = rarcV (l.set k { l[k] with rd := n })
  | s :: l, 0, _, n => by simp [rarcV]
  | s :: l, k + 1, hk, n => by
    have h := rarcV_set3 l k (by simpa using hk) n
    have e : ∀ (t : Rarc) (m : List Rarc), rarcV (t :: m) = [.int .i64 t.fr, .int .i64 t.to, .int .i64 t.ln, .int .i64 t.rd, .int .i64 t.wy] ++ rarcV m := fun t m => by simp [rarcV]
    rw [List.set_cons_succ, e, e, List.set_append_right _ _ (by simp; omega), show (k + 1) * 5 + 3 - [Value.int .i64 s.fr, .int .i64 s.to, .int .i64 s.ln, .int .i64 s.rd, .int .i64 s.wy].length = k * 5 + 3 by simp; omega, h]
    rfl
theorem rarcV_set4 : ∀ (l : List Rarc) (k : Nat) (hk : k < l.length) (n : Int), (rarcV l).set (k * 5 + 4) (.int .i64 n) = rarcV (l.set k { l[k] with wy := n })
  | s :: l, 0, _, n => by simp [rarcV]
  | s :: l, k + 1, hk, n => by
    have h := rarcV_set4 l k (by simpa using hk) n
    have e : ∀ (t : Rarc) (m : List Rarc), rarcV (t :: m) = [.int .i64 t.fr, .int .i64 t.to, .int .i64 t.ln, .int .i64 t.rd, .int .i64 t.wy] ++ rarcV m := fun t m => by simp [rarcV]
    rw [List.set_cons_succ, e, e, List.set_append_right _ _ (by simp; omega), show (k + 1) * 5 + 4 - [Value.int .i64 s.fr, .int .i64 s.to, .int .i64 s.ln, .int .i64 s.rd, .int .i64 s.wy].length = k * 5 + 4 by simp; omega, h]
    rfl
section
variable {H : Type} {enc : TypeId × Value → H} {P : Program} {w : World} {base : Nat} {spare : Nat → Bool} {held : Bool}
theorem read_rarcs {t e ti : TypeId} {f0 f1 f2 f3 f4 : Field} {fuel : Nat} {a : Option Addr} {len cap : Nat} {x : DataW H × List MemPlace} (ht : P.underlying t = some (.slice e)) (he : P.underlying e = some (.struct #[f0, f1, f2, f3, f4]))
    (hone : oneCellFields P #[f0, f1, f2, f3, f4] = true) (hC : P.cellsOf e = 5) (hi : P.underlying ti = some (.int .i64)) (h0 : f0.type = ti) (h1 : f1.type = ti) (h2 : f2.type = ti) (h3 : f3.type = ti) (h4 : f4.type = ti)
    (h : DataW.trod enc P w base spare held fuel t [.slice a len cap] = some x) : ∃ l : List Rarc, l.length = len ∧ Rarcs w a l := by
  rcases open_slice_fields ht he hone hC h with ⟨hcs, _⟩ | ⟨ad, l', c', m, D, Pl, hcs, _, hl, _, hm, _, hf⟩
  · simp at hcs
    obtain ⟨rfl, rfl, rfl⟩ := hcs
    exact ⟨[], rfl, fun j hj => by simp at hj⟩
  · simp at hcs
    obtain ⟨rfl, rfl, rfl⟩ := hcs
    have hlm : len ≤ m := by rw [hm]; split <;> omega
    have each : ∀ i, i < len → ∃ s : Rarc, w.cell? (ad.add (i * 5 + 0)) = some (.int .i64 s.fr) ∧ w.cell? (ad.add (i * 5 + 1)) = some (.int .i64 s.to) ∧ w.cell? (ad.add (i * 5 + 2)) = some (.int .i64 s.ln) ∧ w.cell? (ad.add (i * 5 + 3)) = some (.int .i64 s.rd) ∧ w.cell? (ad.add (i * 5 + 4)) = some (.int .i64 s.wy) := by
      intro i hi'
      obtain ⟨ys, n, _, _, _, hg⟩ := hf i (by omega)
      obtain ⟨v0, y0, c0, _, t0⟩ := hg 0 f0 rfl
      obtain ⟨v1, y1, c1, _, t1⟩ := hg 1 f1 rfl
      obtain ⟨v2, y2, c2, _, t2⟩ := hg 2 f2 rfl
      obtain ⟨v3, y3, c3, _, t3⟩ := hg 3 f3 rfl
      obtain ⟨v4, y4, c4, _, t4⟩ := hg 4 f4 rfl
      rw [h0] at t0
      obtain ⟨n0, e0, _⟩ := DataW.trod_int hi t0
      rw [h1] at t1
      obtain ⟨n1, e1, _⟩ := DataW.trod_int hi t1
      rw [h2] at t2
      obtain ⟨n2, e2, _⟩ := DataW.trod_int hi t2
      rw [h3] at t3
      obtain ⟨n3, e3, _⟩ := DataW.trod_int hi t3
      rw [h4] at t4
      obtain ⟨n4, e4, _⟩ := DataW.trod_int hi t4
      simp at e0 e1 e2 e3 e4
      subst e0 e1 e2 e3 e4
      exact ⟨⟨n0, n1, n2, n3, n4⟩, c0, c1, c2, c3, c4⟩
    let S : Nat → Rarc := fun i => if hi' : i < len then Classical.choose (each i hi') else default
    refine ⟨(List.range len).map S, by simp, fun j hj => ?_⟩
    have hj' : j < len := by simpa using hj
    have hS : S j = Classical.choose (each j hj') := by simp [S, hj']
    obtain ⟨k0, k1, k2, k3, k4⟩ := Classical.choose_spec (each j hj')
    rw [← hS] at k0 k1 k2 k3 k4
    obtain ⟨sz, z0, _⟩ := each 0 (by omega)
    have z1 : w.cell? (ad.add 0) = some (.int .i64 sz.fr) := by simpa using z0
    obtain ⟨b, off, rfl, hb⟩ := spot_none z1
    rw [add_at] at k0 k1 k2 k3 k4
    refine ⟨b, off, rfl, hb, ?_⟩
    simp only [List.getElem_map, List.getElem_range]
    exact ⟨by simpa using k0, by simpa [Nat.add_assoc] using k1, by simpa [Nat.add_assoc] using k2, by simpa [Nat.add_assoc] using k3, by simpa [Nat.add_assoc] using k4⟩
end

end Go.Proofs.Ytbejgbflipoboaa
