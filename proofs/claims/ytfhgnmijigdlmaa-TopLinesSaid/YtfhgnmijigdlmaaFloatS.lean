/- As Float, but what makes a block may look at what it waits for (a slice of one number written out), and may hand back more than a pointer: a region that draws its order, whose first n operations are quiet over grown worlds, but for some that make a block; the rest is forced into one order behind them. One walk of the quiet operations serves every order; the blocks' places are bound behind it. -/
import Derived.Test.YtfhgnmijigdlmaaTail
namespace Go.Proofs.Ytfhgnmijigdlmaa
open Go.RowKit

/-- an operation that makes a block: its number, its slot, what the block holds, its type -/
structure Maker where
  idx : Nat
  slot : Nat
  cells : Array Value
  ty : TypeId
  val : Nat → Value

/-- the quiet operations, in the order of the text -/
def pickQ : List Oper → List Bool → List Oper
  | o :: l, true :: m => o :: pickQ l m
  | _ :: l, false :: m => pickQ l m
  | _, _ => []

/-- a block that was made since w, and how the world has grown behind it -/
def MadeB (w : World) (m : Maker) (b : Nat) (W : World) : Prop := ∃ X, Ext w X ∧ Ext (X.alloc (.cells m.cells m.ty)) W ∧ b = X.heap.size
theorem MadeB.ext {w W W' : World} {m : Maker} {b : Nat} (h : MadeB w m b W) (hE : Ext W W') : MadeB w m b W' := by
  obtain ⟨X, h1, h2, h3⟩ := h
  exact ⟨X, h1, h2.trans' hE, h3⟩

def putAll (b : Nat → Nat) (A : Act) : List Maker → Act
  | [] => A
  | m :: ms => (putAll b A ms).put (some m.slot) (m.val (b m.idx))

section
variable {P : Program} {ops : Array Oper} {C : World → Prop}

theorem eval_agree {ops : Array Oper} (o : Oper) (hs : ∀ cs b, o.op ≠ .select cs b) {a a' : Act} (h : ∀ t ∈ o.looksAt ops, a'.tmps[t]? = a.tmps[t]?) :
    execOp a'.eval o = execOp a.eval o ∧ Region.wanted o (yielded ops a'.tmps) = Region.wanted o (yielded ops a.tmps) := by
  constructor
  · refine execOp_congr o hs fun x hx => ?_
    cases x with
    | tmp t =>
      have := h t (List.mem_append_left _ (List.mem_filterMap.2 ⟨.tmp t, by simpa using hx, rfl⟩))
      simp only [Act.eval, Array.getD_eq_getD_getElem?, this]
    | _ => rfl
  · unfold Region.wanted
    cases hg : o.guard with
    | none => rfl
    | some gw =>
      obtain ⟨g, want⟩ := gw
      have hy : yielded ops a'.tmps g = yielded ops a.tmps g := by
        unfold yielded
        cases ht : (ops[g]?).bind (·.dst) with
        | none => rfl
        | some t =>
          have := h t (by simp [Oper.looksAt, hg, ht])
          simp [this]
      simp only [hy]

theorem put_at {a : Act} {d t : Nat} {v : Value} (h : t ≠ d) : (a.put (some d) v).tmps[t]? = a.tmps[t]? := by
  simp [Act.put, Array.getElem?_setIfInBounds_ne (Ne.symm h)]
theorem put_hit {a : Act} {d : Nat} {v : Value} (h : d < a.tmps.size) : (a.put (some d) v).tmps[d]? = some v := by
  simp [Act.put, h]
theorem put_size {a : Act} {d : Option Tmp} {v : Value} : (a.put d v).tmps.size = a.tmps.size := by
  cases d <;> simp [Act.put]
theorem put_defers {a : Act} {d : Option Tmp} {v : Value} : (a.put d v).defers = a.defers := by
  cases d <;> rfl
theorem put_keep {a : Act} {d : Option Tmp} {t : Nat} {v : Value} (h : d ≠ some t) : (a.put d v).tmps[t]? = a.tmps[t]? := by
  cases d with
  | none => rfl
  | some d => exact put_at (fun e => h (by rw [e]))

def lexOKq (ops : Array Oper) (N : Nat) : List Oper → Bool
  | [] => true
  | o :: L => (match o.dst with | some d => decide (d < N) && !(o.looksAt ops).contains d | none => true) &&
      L.all (fun o' => match o'.dst with | some d => !(o.looksAt ops).contains d && (o.dst != some d) | none => true) && lexOKq ops N L

theorem lex_yields (hsel : ∀ o : Oper, o ∈ ops → ∀ cs b, o.op ≠ .select cs b) {N : Nat} {A : Act} : ∀ (L : List Oper) (a : Act), lexOKq ops N L = true → (∀ o ∈ L, o ∈ ops) → a.tmps.size = N → wpQuiet P ops C (fun a' => a' = A) L a →
    (∀ o ∈ L, ∃ v, YieldsIn P ops C o v A ∧ ∀ d, o.dst = some d → A.tmps[d]? = some v) ∧ (∀ t, (∀ o ∈ L, o.dst ≠ some t) → A.tmps[t]? = a.tmps[t]?) ∧ A.tmps.size = N ∧ A.defers = a.defers
  | [], a, _, _, hN, h => by
    obtain rfl : a = A := h
    exact ⟨fun o ho => (by cases ho), fun _ _ => rfl, hN, rfl⟩
  | o :: L, a, hB, hin, hN, h => by
    simp only [lexOKq, Bool.and_eq_true] at hB
    obtain ⟨⟨hB1, hB2⟩, hB3⟩ := hB
    have hst : ∃ v, YieldsIn P ops C o v a ∧ wpQuiet P ops C (fun a' => a' = A) L (a.put o.dst v) := by
      have h' : if Region.wanted o (yielded ops a.tmps) then o.quiet P a C (wpQuiet P ops C (fun a' => a' = A) L) else wpQuiet P ops C (fun a' => a' = A) L (a.put o.dst undef) := h
      by_cases hw : Region.wanted o (yielded ops a.tmps) = true
      · rw [if_pos hw] at h'
        obtain ⟨v, h1, h2⟩ := h'
        exact ⟨v, .inl ⟨hw, h1⟩, h2⟩
      · rw [if_neg hw] at h'
        exact ⟨undef, .inr ⟨by simpa using hw, rfl⟩, h'⟩
    obtain ⟨v, hy, hK⟩ := hst
    obtain ⟨i1, i2, i3, i4⟩ := lex_yields hsel L _ hB3 (fun o' ho' => hin o' (List.mem_cons_of_mem _ ho')) (by rw [put_size]; exact hN) hK
    have hLall := List.all_eq_true.1 hB2
    refine ⟨fun o' ho' => ?_, fun t ht => ?_, i3, by rw [i4, put_defers]⟩
    · rcases List.mem_cons.1 ho' with rfl | ho'
      · refine ⟨v, ?_, fun d hd => ?_⟩
        · have hag : ∀ t ∈ o'.looksAt ops, A.tmps[t]? = a.tmps[t]? := fun t ht => by
            rw [i2 t (fun o2 ho2 he => ?_), put_keep (fun he => ?_)]
            · rw [he] at hB1
              simp only [Bool.and_eq_true, Bool.not_eq_true', List.contains_eq_mem, decide_eq_false_iff_not] at hB1
              exact hB1.2 ht
            · have := hLall o2 ho2
              rw [he] at this
              simp only [Bool.and_eq_true, Bool.not_eq_true', List.contains_eq_mem, decide_eq_false_iff_not] at this
              exact this.1 ht
          obtain ⟨e1, e2⟩ := eval_agree (ops := ops) o' (hsel o' (hin o' List.mem_cons_self)) hag
          exact hy.of_same e1 e2
        · rw [i2 d (fun o2 ho2 he => ?_), hd, put_hit]
          · rw [hd] at hB1
            simp only [Bool.and_eq_true, decide_eq_true_eq] at hB1
            rw [hN]; exact hB1.1
          · have := hLall o2 ho2
            rw [he, hd] at this
            simp at this
      · exact i1 o' ho'
    · rw [i2 t (fun o2 ho2 => ht o2 (List.mem_cons_of_mem _ ho2)), put_keep (ht o List.mem_cons_self)]

/-- the form of the region -/
def floatB (ops : Array Oper) (N : Nat) (M : List Bool) (ms : List Maker) : Bool :=
  Region.noSelect ops && decide (M.length < ops.size) && Region.sinkB .any ops M.length && Region.chainB .any ops M.length &&
  Region.seqB .any ops (ops.size - M.length) M.length ((List.range ops.size).map fun i => decide (i < M.length)).toArray &&
  lexOKq ops N (pickQ ops.toList M) &&
  ((List.range M.length).all fun i => match ops[i]? with
    | some o => o.after.all (fun e => !(Region.binds .any e) || decide (e.on < i)) &&
        ((o.looksAt ops).all (fun t => (List.range M.length).all fun j => match ops[j]? with
            | some o' => (o'.dst != some t) || (M.getD j true && Region.waitsFor .any ops i j)
            | none => true) && (M.getD i true || ms.any fun m => decide (m.idx = i))) &&
        ((List.range M.length).all fun j => decide (i = j) || (match ops[j]? with | some o' => o.dst.isNone || (o.dst != o'.dst) | none => true))
    | none => false) &&
  (ms.all fun m => decide (m.idx < M.length) && !(M.getD m.idx true) && decide (m.slot < N) && (match ops[m.idx]? with | some o => (o.dst == some m.slot) && o.guard.isNone | none => false)) &&
  decide ((ms.map (·.slot)).Nodup)

theorem pickQ_mem : ∀ (l : List Oper) (M : List Bool) (i : Nat) (o : Oper), l[i]? = some o → M[i]? = some true → o ∈ pickQ l M
  | [], _, i, o, h, _ => by simp at h
  | a :: l, [], i, o, _, h => by simp at h
  | a :: l, true :: M, 0, o, h, _ => by simp at h; subst h; exact List.mem_cons_self
  | a :: l, false :: M, 0, o, _, h => by simp at h
  | a :: l, true :: M, i + 1, o, h, h' => List.mem_cons_of_mem _ (pickQ_mem l M i o (by simpa using h) (by simpa using h'))
  | a :: l, false :: M, i + 1, o, h, h' => pickQ_mem l M i o (by simpa using h) (by simpa using h')
theorem pickQ_sub : ∀ (l : List Oper) (M : List Bool) (o : Oper), o ∈ pickQ l M → ∃ i : Nat, l[i]? = some o ∧ M[i]? = some true
  | [], M, o, h => by cases M with | nil => cases h | cons b M => cases b <;> cases h
  | a :: l, [], o, h => by cases h
  | a :: l, true :: M, o, h => by
    rcases List.mem_cons.1 h with rfl | h
    · exact ⟨0, rfl, rfl⟩
    · obtain ⟨i, h1, h2⟩ := pickQ_sub l M o h
      exact ⟨i + 1, by simpa using h1, by simpa using h2⟩
  | a :: l, false :: M, o, h => by
    obtain ⟨i, h1, h2⟩ := pickQ_sub l M o h
    exact ⟨i + 1, by simpa using h1, by simpa using h2⟩

theorem putAll_size {b : Nat → Nat} {A : Act} : ∀ ms : List Maker, (putAll b A ms).tmps.size = A.tmps.size
  | [] => rfl
  | m :: ms => by rw [putAll, put_size, putAll_size ms]
theorem putAll_defers {b : Nat → Nat} {A : Act} : ∀ ms : List Maker, (putAll b A ms).defers = A.defers
  | [] => rfl
  | m :: ms => by rw [putAll, put_defers, putAll_defers ms]
theorem putAll_keep {b : Nat → Nat} {A : Act} {t : Nat} : ∀ ms : List Maker, (∀ m ∈ ms, m.slot ≠ t) → (putAll b A ms).tmps[t]? = A.tmps[t]?
  | [], _ => rfl
  | m :: ms, h => by
    rw [putAll, put_at (Ne.symm (h m List.mem_cons_self)), putAll_keep ms (fun m' hm' => h m' (List.mem_cons_of_mem _ hm'))]
theorem putAll_hit {b : Nat → Nat} {A : Act} : ∀ ms : List Maker, (ms.map (·.slot)).Nodup → ∀ m ∈ ms, m.slot < A.tmps.size → (putAll b A ms).tmps[m.slot]? = some (m.val (b m.idx))
  | [], _, m, h, _ => by cases h
  | m :: ms, hn, m', h, hsz => by
    simp only [List.map_cons, List.nodup_cons] at hn
    rcases List.mem_cons.1 h with rfl | h
    · rw [putAll, put_hit (by rw [putAll_size]; exact hsz)]
    · rw [putAll, put_at (fun e => hn.1 (by rw [← e]; exact List.mem_map.2 ⟨m', h, rfl⟩)), putAll_hit ms hn.2 m' h hsz]

/-- a state on the way, in whatever order -/
structure FloatSt (P : Program) (ops : Array Oper) (w : World) (N : Nat) (M : List Bool) (ms : List Maker) (A : Act) (listed : Array Bool) (a : Act) (b : Nat → Nat) (W : World) : Prop where
  inv : HeadInv .any ops M.length listed
  ext : Ext w W
  size : a.tmps.size = N
  defers : a.defers = A.defers
  quiet : ∀ i, M[i]? = some true → listed.getD i false = true → ∀ o, ops[i]? = some o → ∀ d, o.dst = some d → a.tmps[d]? = A.tmps[d]?
  rest : ∀ t, (∀ i, i < M.length → ∀ o, ops[i]? = some o → o.dst ≠ some t) → a.tmps[t]? = A.tmps[t]?
  made : ∀ m ∈ ms, listed.getD m.idx false = true → a.tmps[m.slot]? = some (m.val (b m.idx)) ∧ MadeB w m (b m.idx) W

/-- how many of the first n are still to come -/
def unl (listed : Array Bool) (n : Nat) : Nat := ((List.range n).filter fun i => !listed.getD i true).length

theorem unl_set {listed : Array Bool} {i n : Nat} (hi : i < n) (hs : i < listed.size) (hu : listed.getD i true = false) : unl listed n = unl (listed.setIfInBounds i true) n + 1 := by
  unfold unl
  induction n with
  | zero => omega
  | succ n ih =>
    rw [List.range_succ, List.filter_append, List.filter_append, List.length_append, List.length_append]
    by_cases e : i = n
    · subst e
      have h1 : (List.range i).filter (fun k => !(listed.setIfInBounds i true).getD k true) = (List.range i).filter (fun k => !listed.getD k true) := by
        refine List.filter_congr fun k hk => ?_
        rw [getD_set_ne true (by have := List.mem_range.1 hk; omega)]
      rw [h1]
      have h2 : (listed.setIfInBounds i true).getD i true = true := by simp [hs]
      simp only [List.filter_cons, List.filter_nil, hu, h2, Bool.not_true, Bool.not_false, if_true, Bool.false_eq_true, if_false, List.length_cons, List.length_nil]
    · rw [ih (by omega), List.filter_cons, List.filter_cons, getD_set_ne true e]
      simp only [List.filter_nil]
      omega
theorem unl_zero {listed : Array Bool} {n : Nat} (h : unl listed n = 0) : ∀ i, i < n → listed.getD i true = true := by
  intro i hi
  unfold unl at h
  rw [List.length_eq_zero_iff, List.filter_eq_nil_iff] at h
  have := h i (List.mem_range.2 hi)
  simpa using this
theorem unl_pos {listed : Array Bool} {n k : Nat} (h : unl listed n = k + 1) : ∃ i, i < n ∧ listed.getD i true = false := by
  unfold unl at h
  have : (List.range n).filter (fun i => !listed.getD i true) ≠ [] := fun e => by rw [e] at h; simp at h
  obtain ⟨i, hi⟩ := List.exists_mem_of_ne_nil _ this
  rw [List.mem_filter, List.mem_range] at hi
  exact ⟨i, hi.1, by simpa using hi.2⟩

structure FloatOK (ops : Array Oper) (N : Nat) (M : List Bool) (mks : List Maker) : Prop where
  sel : Region.noSelect ops = true
  lt : M.length < ops.size
  sink : Region.sinkB .any ops M.length = true
  chain : Region.chainB .any ops M.length = true
  seq : Region.seqB .any ops (ops.size - M.length) M.length ((List.range ops.size).map fun i => decide (i < M.length)).toArray = true
  lex : lexOKq ops N (pickQ ops.toList M) = true
  back : ∀ i, i < M.length → ∀ o, ops[i]? = some o → ∀ e ∈ o.after, Region.binds .any e = true → e.on < i
  deps : ∀ i, i < M.length → ∀ o, ops[i]? = some o → ∀ t ∈ o.looksAt ops, ∀ j, j < M.length → ∀ o', ops[j]? = some o' → o'.dst = some t → M[j]? = some true ∧ Region.waitsFor .any ops i j = true
  maker : ∀ i, M[i]? = some false → ∃ m ∈ mks, m.idx = i
  apart : ∀ i, i < M.length → ∀ o, ops[i]? = some o → ∀ j, j < M.length → i ≠ j → ∀ o', ops[j]? = some o' → ∀ d, o.dst = some d → o'.dst ≠ some d
  ms : ∀ m ∈ mks, M[m.idx]? = some false ∧ m.slot < N ∧ ∃ o, ops[m.idx]? = some o ∧ o.dst = some m.slot ∧ o.guard = none
  nodup : (List.map (fun m : Maker => m.slot) mks).Nodup

theorem floatOK {N : Nat} {M : List Bool} {ms : List Maker} (h : floatB ops N M ms = true) : FloatOK ops N M ms := by
  simp only [floatB, Bool.and_eq_true, decide_eq_true_eq] at h
  obtain ⟨⟨⟨⟨⟨⟨⟨⟨h1, h2⟩, h3⟩, h4⟩, h5⟩, h6⟩, h7⟩, h8⟩, h9⟩ := h
  have hM : ∀ i b, M[i]? = some b → i < M.length ∧ M.getD i true = b := fun i b hb => ⟨(List.getElem?_eq_some_iff.1 hb).1, by simp [List.getD_eq_getElem?_getD, hb]⟩
  have hM2 : ∀ i, i < M.length → M[i]? = some (M.getD i true) := fun i hi => by simp [List.getD_eq_getElem?_getD, hi]
  have H7 := fun i (hi : i < M.length) => List.all_eq_true.1 h7 i (List.mem_range.2 hi)
  refine ⟨h1, h2, h3, h4, h5, h6, fun i hi o ho e he hb => ?_, fun i hi o ho t ht j hj o' ho' hd => ?_, fun i hi => ?_, fun i hi o ho j hj hij o' ho' d hd hd' => ?_, fun m hm => ?_, h9⟩
  · have := H7 i hi
    simp only [ho, Bool.and_eq_true] at this
    have h' := Array.all_eq_true_iff_forall_mem.1 this.1.1 e he
    simpa [hb] using h'
  · have := H7 i hi
    simp only [ho, Bool.and_eq_true] at this
    have h' := this.1.2.1
    have h'' := List.all_eq_true.1 (List.all_eq_true.1 h' t ht) j (List.mem_range.2 hj)
    simp only [ho', hd, bne_self_eq_false, Bool.false_or, Bool.and_eq_true] at h''
    exact ⟨by rw [hM2 j hj, h''.1], h''.2⟩
  · obtain ⟨hi1, hi2⟩ := hM i false hi
    have := H7 i hi1
    have hlt : i < ops.size := by omega
    have ho : ops[i]? = some ops[i] := by simp [hlt]
    simp only [ho, Bool.and_eq_true] at this
    have h' := this.1.2.2
    rw [hi2, Bool.false_or] at h'
    obtain ⟨m, hm, he⟩ := List.any_eq_true.1 h'
    exact ⟨m, hm, of_decide_eq_true he⟩
  · have := H7 i hi
    simp only [ho, Bool.and_eq_true] at this
    have h' := List.all_eq_true.1 this.2 j (List.mem_range.2 hj)
    simp [ho', hij, hd, hd'] at h'
  · have := List.all_eq_true.1 h8 m hm
    simp only [Bool.and_eq_true, decide_eq_true_eq] at this
    obtain ⟨⟨⟨g1, g2⟩, g3⟩, g4⟩ := this
    have hlt : m.idx < ops.size := by omega
    have ho : ops[m.idx]? = some ops[m.idx] := by simp [hlt]
    simp only [ho, Bool.and_eq_true, beq_iff_eq, Option.isNone_iff_eq_none] at g4
    exact ⟨by rw [hM2 _ g1]; simpa using g2, g3, _, ho, g4.1, g4.2⟩

theorem exists_first' (p : Nat → Prop) [DecidablePred p] : ∀ n, (∃ j, j < n ∧ p j) → ∃ i, i < n ∧ p i ∧ ∀ j, j < i → ¬ p j
  | 0, h => by obtain ⟨j, hj, _⟩ := h; omega
  | n + 1, h => by
    by_cases h' : ∃ j, j < n ∧ p j
    · obtain ⟨i, hi, h1, h2⟩ := exists_first' p n h'
      exact ⟨i, by omega, h1, h2⟩
    · obtain ⟨j, hj, hp⟩ := h
      have : j = n := by
        rcases Nat.lt_or_ge j n with h1 | h1
        · exact absurd ⟨j, h1, hp⟩ h'
        · omega
      subst this
      exact ⟨j, by omega, hp, fun q hq hpq => h' ⟨q, hq, hpq⟩⟩
theorem nodup_slot : ∀ ms : List Maker, (ms.map (·.slot)).Nodup → ∀ m ∈ ms, ∀ m' ∈ ms, m.slot = m'.slot → m = m'
  | [], _, m, h, _, _, _ => by cases h
  | x :: ms, hn, m, h, m', h', he => by
    simp only [List.map_cons, List.nodup_cons] at hn
    rcases List.mem_cons.1 h with rfl | hh
    · rcases List.mem_cons.1 h' with rfl | hh'
      · rfl
      · exact (hn.1 (List.mem_map.2 ⟨m', hh', he.symm⟩)).elim
    · rcases List.mem_cons.1 h' with rfl | hh'
      · exact (hn.1 (List.mem_map.2 ⟨m, hh, he⟩)).elim
      · exact nodup_slot ms hn.2 m hh m' hh' he

theorem any_of_float {w : World} {N : Nat} {M : List Bool} {ms : List Maker} {A : Act} {Q : Exit → Act → World → Prop} (hB : FloatOK ops N M ms)
    (hmk : ∀ m ∈ ms, ∀ o, ops[m.idx]? = some o → ∀ W, Ext w W → (execOp A.eval o).run P W = .ok (.value (m.val W.heap.size)) (W.alloc (.cells m.cells m.ty)))
    (hq : ∀ W1, Ext w W1 → ∀ o ∈ pickQ ops.toList M, ∃ v, YieldsIn P ops (fun w' => ∃ x : GW W1, w' = x.world) o v A ∧ ∀ d, o.dst = some d → A.tmps[d]? = some v) (hAs : A.tmps.size = N)
    (hT : ∀ b W, Ext w W → (∀ m ∈ ms, MadeB w m (b m.idx) W) → wpList P ops Q (ops.toList.drop M.length) (putAll b A ms) W) :
    ∀ (f : Nat) (listed : Array Bool) (a : Act) (b : Nat → Nat) (W : World), unl listed M.length = f → FloatSt P ops w N M ms A listed a b W → wpAny P .any ops Q (f + (ops.size - M.length)) listed a W
  | 0, listed, a, b, W, hf, st => by
    have hall := unl_zero hf
    have hlisted : listed = ((List.range ops.size).map fun i => decide (i < M.length)).toArray := by
      apply Array.ext_getElem?
      intro i
      simp only [List.getElem?_toArray, List.getElem?_map]
      rcases Nat.lt_or_ge i ops.size with hi | hi
      · have hi' : i < listed.size := by rw [st.inv.size]; exact hi
        rw [List.getElem?_range hi]
        simp only [Option.map_some]
        rcases Nat.lt_or_ge i M.length with h | h
        · have := hall i h
          simp [hi'] at this
          simp [hi', this, h]
        · have := st.inv.tail i h hi
          simp [hi'] at this
          have hn : ¬ i < M.length := by omega
          simp [hi', this, hn]
      · have h1 : listed[i]? = none := by simp [st.inv.size, hi]
        rw [h1]; simp [hi]
    have ha : a = putAll b A ms := by
      have ht : a.tmps = (putAll b A ms).tmps := by
        apply Array.ext_getElem?
        intro t
        by_cases h : ∃ m ∈ ms, m.slot = t
        · obtain ⟨m, hm, rfl⟩ := h
          obtain ⟨h1, h2, o, ho, hd, hg⟩ := hB.ms m hm
          have hidx := (List.getElem?_eq_some_iff.1 h1).1
          have hl : listed.getD m.idx false = true := by
            have h3 := hall m.idx hidx
            have h4 : m.idx < listed.size := by rw [st.inv.size]; have := hB.lt; omega
            simp [h4] at h3 ⊢; exact h3
          rw [putAll_hit ms hB.nodup m hm (by rw [hAs]; exact h2), (st.made m hm hl).1]
        · rw [putAll_keep ms (fun m hm he => h ⟨m, hm, he⟩)]
          by_cases h' : ∃ i, i < M.length ∧ ∃ o, ops[i]? = some o ∧ o.dst = some t
          · obtain ⟨i, hi, o, ho, hd⟩ := h'
            have hM2 : M[i]? = some (M.getD i true) := by simp [List.getD_eq_getElem?_getD, hi]
            cases hm : M.getD i true with
            | true =>
              rw [hm] at hM2
              have hl : listed.getD i false = true := by
                have h3 := hall i hi
                have h4 : i < listed.size := by rw [st.inv.size]; have := hB.lt; omega
                simp [h4] at h3 ⊢; exact h3
              exact st.quiet i hM2 hl o ho t hd
            | false =>
              rw [hm] at hM2
              obtain ⟨m, hm2, rfl⟩ := hB.maker i hM2
              obtain ⟨h1, h2, o', ho', hd', hg⟩ := hB.ms m hm2
              obtain rfl := Option.some.inj (ho.symm.trans ho')
              rw [hd] at hd'
              exact absurd ⟨m, hm2, (Option.some.inj hd').symm⟩ h
          · exact st.rest t (fun i hi o ho hd => h' ⟨i, hi, o, ho, hd⟩)
      have hd : a.defers = (putAll b A ms).defers := by rw [putAll_defers]; exact st.defers
      calc a = ⟨a.tmps, a.defers⟩ := rfl
        _ = _ := by rw [ht, hd]
    have h := wpAny_of_seq (md := .any) (Q' := Q) (P := P) (ops := ops) (ops.toList.drop M.length) M.length listed a W (fun j => by simp [List.getElem?_drop]) (by
      rw [hlisted]; simpa using hB.seq) (by
      rw [ha]
      exact hT b W st.ext (fun m hm => (st.made m hm (by
        obtain ⟨h1, _⟩ := hB.ms m hm
        have hidx := (List.getElem?_eq_some_iff.1 h1).1
        have h3 := hall m.idx hidx
        have h4 : m.idx < listed.size := by rw [st.inv.size]; have := hB.lt; omega
        simp [h4] at h3 ⊢; exact h3)).2))
    rw [Nat.zero_add]
    simpa using h
  | f + 1, listed, a, b, W, hf, st => by
    obtain ⟨i0, hi0, hu0⟩ := unl_pos hf
    obtain ⟨k0, hk0, hku, hkmin⟩ := exists_first' (fun i => listed.getD i true = false) M.length ⟨i0, hi0, hu0⟩
    have hsz := st.inv.size
    have hlt := hB.lt
    have hready : k0 ∈ Region.ready .any ops listed := by
      refine mem_ready.2 ⟨hku, ops[k0]'(by omega), by simp [show k0 < ops.size by omega], fun e he hb => ?_⟩
      have h1 := hB.back k0 hk0 _ (by simp [show k0 < ops.size by omega]) e he hb
      have h2 := hkmin e.on h1
      have h4 : e.on < listed.size := by omega
      simp [h4] at h2 ⊢; exact h2
    rw [show f + 1 + (ops.size - M.length) = (f + (ops.size - M.length)) + 1 by omega]
    refine ⟨fun h0 => (by rw [h0] at hready; cases hready), fun i hi => ?_⟩
    have hin : i < M.length := by
      rcases Nat.lt_or_ge i M.length with h | h
      · exact h
      · exact absurd hi (tail_waits hB.sink hB.chain hlt st.inv _ i0 rfl hi0 hu0 i h)
    obtain ⟨hiu, o, ho, hall⟩ := mem_ready.1 hi
    have his : i < listed.size := by omega
    have hul := unl_set hin his hiu
    have hM2 : M[i]? = some (M.getD i true) := by simp [List.getD_eq_getElem?_getD, hin]
    have hset : ∀ j, (listed.setIfInBounds i true).getD j false = true → j = i ∨ listed.getD j false = true := fun j hj => by
      by_cases e : i = j
      · exact .inl e.symm
      · rw [getD_set_ne false e] at hj; exact .inr hj
    have hag : ∀ t ∈ o.looksAt ops, a.tmps[t]? = A.tmps[t]? := fun t ht => by
      by_cases h' : ∃ j, j < M.length ∧ ∃ o', ops[j]? = some o' ∧ o'.dst = some t
      · obtain ⟨j, hj, o', ho', hd⟩ := h'
        obtain ⟨g1, g2⟩ := hB.deps i hin o ho t ht j hj o' ho' hd
        obtain ⟨oi, hoi, e, he, hb, hon⟩ := Region.waitsFor_spec g2
        obtain rfl := Option.some.inj (ho.symm.trans hoi)
        have h1 := hall e he hb
        rw [hon] at h1
        exact st.quiet j g1 h1 o' ho' t hd
      · exact st.rest t (fun j hj o' ho' hd => h' ⟨j, hj, o', ho', hd⟩)
    cases hm : M.getD i true with
    | true =>
      rw [hm] at hM2
      obtain ⟨v, hy, hv⟩ := hq W st.ext o (pickQ_mem _ _ i o (by simpa using ho) hM2)
      have hsel := Region.noSelect_spec hB.sel
      obtain ⟨e1, e2⟩ := eval_agree (ops := ops) o (fun cs b => hsel i o cs b ho) hag
      have hy' := hy.of_same e1 e2
      refine wpOp_of_qOp (C := fun w' => ∃ x : GW W, w' = x.world) ⟨⟨W, Below.refl _ _⟩, rfl⟩ (K := fun a' => a' = a.put o.dst v) (fun a' w' hC hK => ?_) (hy'.qOp ho rfl)
      obtain ⟨x, rfl⟩ := hC
      subst hK
      refine any_of_float hB hmk hq hAs hT f _ _ b _ (by omega) ⟨st.inv.set hi hin, st.ext.trans' x.ext, by rw [put_size]; exact st.size, by rw [put_defers]; exact st.defers, fun j hj hl o' ho' d hd => ?_, fun t ht => ?_, fun m hm' hl => ?_⟩
      · rcases hset j hl with rfl | hl'
        · obtain rfl := Option.some.inj (ho.symm.trans ho')
          have hds : d < a.tmps.size := by
            have := hv d hd
            rw [st.size, ← hAs]
            exact (Array.getElem?_eq_some_iff.1 this).1
          rw [hd, put_hit hds, hv d hd]
        · by_cases e : j = i
          · subst e
            obtain rfl := Option.some.inj (ho.symm.trans ho')
            have hds : d < a.tmps.size := by
              have := hv d hd
              rw [st.size, ← hAs]
              exact (Array.getElem?_eq_some_iff.1 this).1
            rw [hd, put_hit hds, hv d hd]
          · have hjn := (List.getElem?_eq_some_iff.1 hj).1
            rw [put_keep (fun he => hB.apart j hjn o' ho' i hin e o ho d hd he)]
            exact st.quiet j hj hl' o' ho' d hd
      · rw [put_keep (fun he => ht i hin o ho he)]
        exact st.rest t ht
      · obtain ⟨g1, g2, o', ho', hd', hg'⟩ := hB.ms m hm'
        have hne : m.idx ≠ i := fun e => by rw [e, hM2] at g1; cases g1
        rcases hset m.idx hl with e | hl'
        · exact absurd e hne
        · obtain ⟨h1, h2⟩ := st.made m hm' hl'
          have hmn := (List.getElem?_eq_some_iff.1 g1).1
          exact ⟨by rw [put_keep (fun he => hB.apart m.idx hmn o' ho' i hin hne o ho m.slot hd' he)]; exact h1, h2.ext x.ext⟩
    | false =>
      rw [hm] at hM2
      obtain ⟨m, hm2, rfl⟩ := hB.maker i hM2
      obtain ⟨g1, g2, o', ho', hd', hg'⟩ := hB.ms m hm2
      obtain rfl := Option.some.inj (ho.symm.trans ho')
      have hsel := Region.noSelect_spec hB.sel
      have hrun := hmk m hm2 o ho W st.ext
      rw [← (eval_agree (ops := ops) o (fun cs b => hsel _ o cs b ho) hag).1] at hrun
      have hw : Region.wanted o (yielded ops a.tmps) = true := by unfold Region.wanted; rw [hg']
      unfold wpOp
      simp only [ho, hw, if_true]
      refine .inl ?_
      unfold Oper.wp
      rw [hrun]
      show wpAny P .any ops Q (f + (ops.size - M.length)) (listed.setIfInBounds m.idx true) (a.put o.dst (m.val W.heap.size)) (W.alloc (.cells m.cells m.ty))
      have hEa := ext_alloc W (.cells m.cells m.ty)
      refine any_of_float hB hmk hq hAs hT f _ _ (fun j => if j = m.idx then W.heap.size else b j) _ (by omega) ⟨st.inv.set hi hin, st.ext.trans' hEa, by rw [put_size]; exact st.size, by rw [put_defers]; exact st.defers, fun j hj hl o' ho' d hd => ?_, fun t ht => ?_, fun m' hm' hl => ?_⟩
      · have hne : j ≠ m.idx := fun e => by rw [e, hM2] at hj; cases hj
        rcases hset j hl with e | hl'
        · exact absurd e hne
        · have hjn := (List.getElem?_eq_some_iff.1 hj).1
          rw [put_keep (fun he => hB.apart j hjn o' ho' m.idx hin hne o ho d hd he)]
          exact st.quiet j hj hl' o' ho' d hd
      · rw [put_keep (fun he => ht m.idx hin o ho he)]
        exact st.rest t ht
      · by_cases e : m'.idx = m.idx
        · have hsl : m'.slot = m.slot := by
            obtain ⟨k1, k2, o2, ho2, hd2, hg2⟩ := hB.ms m' hm'
            rw [e] at ho2
            obtain rfl := Option.some.inj (ho2.symm.trans ho)
            rw [hd2] at hd'
            exact Option.some.inj hd'
          have hmm : m' = m := nodup_slot ms hB.nodup m' hm' m hm2 hsl
          subst hmm
          rw [if_pos rfl, hd', put_hit (by rw [st.size]; exact g2)]
          exact ⟨rfl, W, st.ext, Below.refl _ _, rfl⟩
        · rcases hset m'.idx hl with e' | hl'
          · exact absurd e' e
          · rw [if_neg e]
            obtain ⟨h1, h2⟩ := st.made m' hm' hl'
            obtain ⟨k1, k2, o2, ho2, hd2, hg2⟩ := hB.ms m' hm'
            have hmn := (List.getElem?_eq_some_iff.1 k1).1
            exact ⟨by rw [put_keep (fun he => hB.apart m'.idx hmn o2 ho2 m.idx hin e o ho m'.slot hd2 he)]; exact h1, h2.ext hEa⟩
end

/-- One walk of the quiet operations, in a world that has grown as it likes; the frame behind it, the makers' slots apart, is A; then the tail. -/
theorem wp_region_floatS {P : Program} {id : Nat} {Q : Exit → Act → World → Prop} {a A : Act} {w : World} {l : List Oper} (N : Nat) (M : List Bool) (ms : List Maker) (hm : P.follows .mixedOrders = true) (hB : floatB l.toArray N M ms = true) (hN : a.tmps.size = N)
    (hmk : ∀ m ∈ ms, ∀ o, l.toArray[m.idx]? = some o → ∀ W, Ext w W → (execOp A.eval o).run P W = .ok (.value (m.val W.heap.size)) (W.alloc (.cells m.cells m.ty)))
    (h : ∀ W1, Ext w W1 → wpQuiet P l.toArray (fun w' => ∃ x : GW W1, w' = x.world) (fun a' => a' = A) (pickQ l M) a)
    (hT : ∀ b W, Ext w W → (∀ m ∈ ms, MadeB w m (b m.idx) W) → wpList P l.toArray Q (l.drop M.length) (putAll b A ms) W) : (Code.region id l.toArray true).wp P Q a w := by
  have hok := floatOK hB
  have hsel : ∀ o : Oper, o ∈ l.toArray → ∀ cs b, o.op ≠ .select cs b := fun o ho cs b => by
    obtain ⟨i, hi, rfl⟩ := Array.getElem_of_mem ho
    exact Region.noSelect_spec hok.sel i _ cs b (by simp [show i < l.length by simpa using hi])
  have hsub : ∀ o ∈ pickQ l M, o ∈ l.toArray := fun o ho => by
    obtain ⟨i, hi, _⟩ := pickQ_sub l M o ho
    simpa using List.mem_of_getElem? hi
  have hlex : ∀ W1, Ext w W1 → _ := fun W1 hE => lex_yields hsel (pickQ l M) a (by simpa using hok.lex) hsub hN (h W1 hE)
  obtain ⟨_, h2, h3, h4⟩ := hlex w (Below.refl _ _)
  refine wp_region_any hm ?_
  have hu : unl (Array.replicate l.toArray.size false) M.length = M.length := by
    unfold unl
    have hlt := hok.lt
    have : (List.range M.length).filter (fun i => !(Array.replicate l.toArray.size false).getD i true) = List.range M.length := by
      refine List.filter_eq_self.2 fun i hi => ?_
      have := List.mem_range.1 hi
      have h5 : i < l.toArray.size := by omega
      simp at h5
      simp [h5]
    rw [this, List.length_range]
  have := any_of_float (Q := Q) (w := w) (P := P) (A := A) hok hmk (fun W1 hE o ho => (hlex W1 hE).1 o (by simpa using ho)) h3 (by simpa using hT) M.length (Array.replicate l.toArray.size false) a (fun _ => 0) { w with drawn := w.drawn + 1 } hu
    ⟨headInv_none _, ext_drew w, hN, h4.symm, fun j _ hl => (by rw [getD_replicate_false] at hl; cases hl), fun t ht => (h2 t (fun o ho hd => by
      obtain ⟨i, hi, hi2⟩ := pickQ_sub l M o ho
      exact ht i (List.getElem?_eq_some_iff.1 hi2).1 o (by simpa using hi) hd)).symm, fun m _ hl => (by rw [getD_replicate_false] at hl; cases hl)⟩
  have hlt := hok.lt
  rw [show M.length + (l.toArray.size - M.length) = l.toArray.size by omega] at this
  exact this
end Go.Proofs.Ytfhgnmijigdlmaa
