/- A region that draws its order and whose first n operations are quiet over grown worlds (they read, or call what leaves all that lay as it lay), the rest being forced into one order behind them: one walk of the text's order serves every order. In a plain frame and within a round. -/
import Derived.StillTail
import Derived.OrdersIn
import Derived.OwnWalkIn
import Derived.TacticsInMore
import Derived.Test.YtfhgnmijigdlmaaRng
namespace Go.Proofs.Ytfhgnmijigdlmaa
open Go.RowKit

section
variable {P : Program} {ops : Array Oper} {md : Region.Mode} {C : World → Prop}

/-- the head's operations, in whatever order may come up; none of the tail comes up before they are done -/
def headC (P : Program) (ops : Array Oper) (md : Region.Mode) (C : World → Prop) (n : Nat) (L : Array Bool → Act → Prop) : Nat → Array Bool → Act → Prop
  | 0, listed, a => L listed a
  | f + 1, listed, a => Region.ready md ops listed ≠ [] ∧ ∀ i ∈ Region.ready md ops listed, i < n ∧ qOp P ops C i (headC P ops md C n L f (listed.setIfInBounds i true)) a

theorem headC_first {n i : Nat} {oi : Oper} {v : Value} {L : Array Bool → Act → Prop} (hi : ops[i]? = some oi) (hsel : ∀ (j : Nat) (o : Oper) cs b, ops[j]? = some o → o.op ≠ .select cs b)
    (hs : Region.sinkB md ops n = true) (hc : Region.chainB md ops n = true) (hn : n < ops.size) (hin : i < n)
    (hL : ∀ listed a, L listed a → ∀ j ∈ Region.ready md ops listed, n ≤ j) (f : Nat) :
    ∀ (listed : Array Bool) (a : Act), HeadInv md ops n listed →
      (∀ j oj, ops[j]? = some oj → j ≠ i → listed.getD j true = false → (∀ e ∈ oj.after, Region.binds md e = true → e.on ≠ i) → oi.apart ops oj = true) →
      i ∈ Region.ready md ops listed → YieldsIn P ops C oi v a →
      headC P ops md C n L f (listed.setIfInBounds i true) (a.put oi.dst v) → headC P ops md C n L (f + 1) listed a := by
  induction f with
  | zero =>
    intro listed a inv _ hr hy H
    refine ⟨List.ne_nil_of_mem hr, fun j hj => ?_⟩
    have hjn : j < n := by
      rcases Nat.lt_or_ge j n with h | h
      · exact h
      · exact absurd hj (tail_waits hs hc hn inv _ i rfl hin (mem_ready.1 hr).1 j h)
    by_cases hji : j = i
    · subst hji; exact ⟨hjn, hy.qOp hi H⟩
    · exact absurd (hL _ _ H j (ready_mono hj hji)) (by omega)
  | succ f ih =>
    intro listed a inv hfree hr hy H
    refine ⟨List.ne_nil_of_mem hr, fun j hj => ?_⟩
    have hjn : j < n := by
      rcases Nat.lt_or_ge j n with h | h
      · exact h
      · exact absurd hj (tail_waits hs hc hn inv _ i rfl hin (mem_ready.1 hr).1 j h)
    refine ⟨hjn, ?_⟩
    by_cases hji : j = i
    · subst hji; exact hy.qOp hi H
    · obtain ⟨hjun, oj, hoj, hall⟩ := mem_ready.1 hj
      have hnot : ∀ e ∈ oj.after, Region.binds md e = true → e.on ≠ i := fun e he hb heq => by
        have h1 := hall e he hb
        rw [heq, getD_both (mem_ready.1 hr).1] at h1
        cases h1
      have h2 := qOp_put hoj (hfree j oj hoj hji hjun hnot) (fun cs b => hsel i oi cs b hi) (fun cs b => hsel j oj cs b hoj) hy (H.2 j (ready_mono hj hji)).2
      refine qOp_mono (fun a' h3 => ih (listed.setIfInBounds j true) a' (inv.set hj hjn) (fun k ok hk hki hun hno => ?_) (ready_mono hr (Ne.symm hji)) h3.1 ?_) h2
      · refine hfree k ok hk hki ?_ hno
        by_cases hjk : j = k
        · subst hjk; exact hjun
        · rw [getD_set_ne true hjk] at hun; exact hun
      · rw [Array.setIfInBounds_comm _ _ hji]
        exact h3.2

theorem headC_lex {n g : Nat} {T : Act → Prop} (hsel : Region.noSelect ops = true) (hs : Region.sinkB md ops n = true) (hc : Region.chainB md ops n = true) (hn : n < ops.size) :
    ∀ (l : List Oper) (k : Nat) (listed : Array Bool) (a : Act), (∀ j, j < l.length → l[j]? = ops[k + j]?) → k + l.length = n → HeadInv md ops n listed →
    Region.lexHead md ops g l.length k listed = true → wpQuiet P ops C T l a →
    headC P ops md C n (fun listed' a' => Region.seqB md ops g n listed' = true ∧ T a') l.length listed a
  | [], k, listed, a, _, hk, _, hB, h => by
    obtain rfl : k = n := by simpa using hk
    exact ⟨by simpa [Region.lexHead] using hB, h⟩
  | o :: l, k, listed, a, hl, hk, inv, hB, h => by
    have h0 : ops[k]? = some o := by simpa using (hl 0 (by simp)).symm
    simp only [List.length_cons, Region.lexHead, Bool.and_eq_true] at hB
    obtain ⟨⟨hr, hf⟩, hB'⟩ := hB
    have hr' : k ∈ Region.ready md ops listed := by simpa using hr
    have hkn : k < n := by simp only [List.length_cons] at hk; omega
    have hst : qOp P ops C k (wpQuiet P ops C T l) a := by unfold qOp; simp only [h0]; exact h
    obtain ⟨v, hy, hK⟩ := yieldsIn_of_qOp h0 hst
    refine headC_first h0 (Region.noSelect_spec hsel) hs hc hn hkn (fun listed' a' hL => seqB_ready hL.1) l.length listed a inv (Region.free_spec h0 hf) hr' hy ?_
    refine headC_lex hsel hs hc hn l (k + 1) _ _ (fun j hj => ?_) ?_ (inv.set hr' hkn) hB' hK
    · have := hl (j + 1) (by simp; omega)
      simpa [Nat.add_assoc, Nat.add_comm 1 j] using this
    · simp only [List.length_cons] at hk; omega

theorem any_of_headC {n g : Nat} {L : Array Bool → Act → Prop} {Q' : Exit → Act → World → Prop} (hL : ∀ listed a w, C w → L listed a → wpAny P md ops Q' g listed a w) :
    ∀ (f : Nat) (listed : Array Bool) (a : Act) (w : World), C w → headC P ops md C n L f listed a → wpAny P md ops Q' (f + g) listed a w
  | 0, listed, a, w, hw, h => by rw [Nat.zero_add]; exact hL _ _ _ hw h
  | f + 1, listed, a, w, hw, h => by
    rw [show f + 1 + g = (f + g) + 1 by omega]
    exact ⟨fun h0 => absurd h0 h.1, fun i hi => wpOp_of_qOp hw (fun a' w' hw' h' => any_of_headC hL f _ a' w' hw' h') (h.2 i hi).2⟩

theorem headInv_none {l : List Oper} (n : Nat) : HeadInv md l.toArray n (Array.replicate l.toArray.size false) :=
  ⟨by simp, fun j oj _ hl => (by rw [getD_replicate_false] at hl; cases hl), fun t _ ht => getD_in (by simpa using ht) (getD_replicate_false _ _)⟩
end

theorem wp_region_ext_tail {P : Program} {id : Nat} {Q : Exit → Act → World → Prop} {a : Act} {w : World} {l : List Oper} (n : Nat) (hm : P.follows .mixedOrders = true) (hB : Region.lexTailB .any l.toArray n = true)
    (h : wpQuiet P l.toArray (fun w' => ∃ x : GW w, w' = x.world) (fun a' => ∀ w', Ext w w' → wpList P l.toArray Q (l.drop n) a' w') (l.take n) a) : (Code.region id l.toArray true).wp P Q a w := by
  simp only [← gw_all] at h
  simp only [Region.lexTailB, Bool.and_eq_true, decide_eq_true_eq] at hB
  obtain ⟨⟨⟨⟨hsel, hn⟩, hs⟩, hc⟩, hlex⟩ := hB
  have hn' : n < l.length := by simpa using hn
  have htl : (l.take n).length = n := by simp; omega
  have hdl : (l.drop n).length = l.toArray.size - n := by simp
  have H := headC_lex (md := .any) (g := l.toArray.size - n) hsel hs hc hn (l.take n) 0 _ a (fun j hj => by
    have hj' : j < n := by rw [htl] at hj; exact hj
    simp [hj']) (by simpa using htl) (headInv_none n) (by rw [htl]; exact hlex) h
  refine wp_region_any hm ?_
  have := any_of_headC (Q' := Q) (g := l.toArray.size - n) (fun listed a' w' hw' hL => by
    have := wpAny_of_seq (md := .any) (Q' := Q) (l.drop n) n listed a' w' (fun j => by simp [List.getElem?_drop]) (by rw [hdl]; exact hL.1) (hL.2 w' hw')
    rwa [hdl] at this) _ _ _ _ ⟨⟨_, ext_drew w⟩, rfl⟩ H
  rw [htl, show n + (l.toArray.size - n) = l.toArray.size by omega] at this
  exact this

/-! ### within a round -/

theorem wpOpIn_of_qOpR {P : Program} {ops : Array Oper} {C : World → Prop} {r : Option Nat} {i n : Nat} {a : Act} {K : Act → Prop} {K' : Act → World → Prop} {Q' : Exit → Act → World → Prop} {w : World} (hd : ∀ (i : Nat) (o : Oper) c, ops[i]? = some o → o.op ≠ .defer c)
    (hC : C w) (h : ∀ a w', C w' → K a → K' a w') (hh : qOp P ops C i K a) : wpOpIn (Wd r) n P ops Q' i K' a w := by
  unfold qOp at hh
  unfold wpOpIn
  cases ho : ops[i]? with
  | none => simp only [ho] at hh ⊢; exact h _ _ hC hh
  | some o =>
    simp only [ho] at hh ⊢
    split
    · rename_i hwt; simp only [hwt, if_true] at hh
      exact wpIn_of_quietR (fun c => hd i o c ho) hC h hh
    · rename_i hwt; simp only [hwt] at hh
      exact ⟨fun _ _ => trivial, h _ _ hC hh⟩

theorem anyIn_of_headC {P : Program} {ops : Array Oper} {md : Region.Mode} {C : World → Prop} {r : Option Nat} {n g m : Nat} {L : Array Bool → Act → Prop} {Q' : Exit → Act → World → Prop} (hd : ∀ (i : Nat) (o : Oper) c, ops[i]? = some o → o.op ≠ .defer c)
    (hL : ∀ listed a w, C w → L listed a → wpAnyIn (Wd r) m P md ops Q' g listed a w) :
    ∀ (f : Nat) (listed : Array Bool) (a : Act) (w : World), C w → headC P ops md C n L f listed a → wpAnyIn (Wd r) m P md ops Q' (f + g) listed a w
  | 0, listed, a, w, hw, h => by rw [Nat.zero_add]; exact hL _ _ _ hw h
  | f + 1, listed, a, w, hw, h => by
    rw [show f + 1 + g = (f + g) + 1 by omega]
    exact ⟨fun h0 => absurd h0 h.1, fun i hi => wpOpIn_of_qOpR hd hw (fun a' w' hw' h' => anyIn_of_headC hd hL f _ a' w' hw' h') (h.2 i hi).2⟩
theorem anyIn_of_seq {P : Program} {ops : Array Oper} {md : Region.Mode} {F : Fence} {m : Nat} {Q' : Exit → Act → World → Prop} : ∀ (l : List Oper) (k : Nat) (listed : Array Bool) (a : Act) (w : World), (∀ j, l[j]? = ops[k + j]?) →
    Region.seqB md ops l.length k listed = true → wpListIn F m P ops Q' l a w → wpAnyIn F m P md ops Q' l.length listed a w
  | [], _, _, _, _, _, hB, h => ⟨by simpa [Region.seqB] using hB, h⟩
  | o :: l, k, listed, a, w, hl, hB, h => by
    have h0 : ops[k]? = some o := by simpa using (hl 0).symm
    simp only [List.length_cons, Region.seqB, Bool.and_eq_true, decide_eq_true_eq] at hB
    refine ⟨fun h1 => (by rw [hB.1] at h1; cases h1), fun i hi => ?_⟩
    rw [hB.1] at hi
    obtain rfl : i = k := by simpa using hi
    have hw : wpOpIn F m P ops Q' i (wpListIn F m P ops Q' l) a w := by unfold wpOpIn; simp only [h0]; exact h
    refine wpOpIn_mono (fun a' w' h' => anyIn_of_seq l (i + 1) _ a' w' (fun j => ?_) hB.2 h') hw
    have := hl (j + 1)
    simpa [Nat.add_assoc, Nat.add_comm 1 j] using this

theorem wpIn_region_ext_tail {P : Program} {r : Option Nat} {id m : Nat} {Q : Exit → Act → World → Prop} {a : Act} {w : World} {l : List Oper} (n : Nat) (hm : P.follows .mixedOrders = true) (hB : Region.lexTailB .any l.toArray n = true) (hd : noDefer l = true)
    (h : wpQuiet P l.toArray (fun w' => ∃ x : GW w, w' = x.world) (fun a' => ∀ w', Ext w w' → wpListIn (Wd r) m P l.toArray Q (l.drop n) a' w') (l.take n) a) : (Code.region id l.toArray true).wpIn (Wd r) m P Q a w := by
  simp only [← gw_all] at h
  simp only [Region.lexTailB, Bool.and_eq_true, decide_eq_true_eq] at hB
  obtain ⟨⟨⟨⟨hsel, hn⟩, hs⟩, hc⟩, hlex⟩ := hB
  have hn' : n < l.length := by simpa using hn
  have htl : (l.take n).length = n := by simp; omega
  have hdl : (l.drop n).length = l.toArray.size - n := by simp
  have H := headC_lex (md := .any) (g := l.toArray.size - n) hsel hs hc hn (l.take n) 0 _ a (fun j hj => by
    have hj' : j < n := by rw [htl] at hj; exact hj
    simp [hj']) (by simpa using htl) (headInv_none n) (by rw [htl]; exact hlex) h
  refine wpIn_region_any hm ?_
  have hd' : ∀ (i : Nat) (o : Oper) c, l.toArray[i]? = some o → o.op ≠ .defer c := fun i o c ho hc' => by
    have hmem : o ∈ l := List.mem_of_getElem? (by simpa using ho : l[i]? = some o)
    have := List.all_eq_true.1 hd o hmem
    simp [hc'] at this
  have := anyIn_of_headC (Q' := Q) (r := r) (m := m) (g := l.toArray.size - n) hd' (fun listed a' w' hw' hL => by
    have := anyIn_of_seq (F := Wd r) (m := m) (md := .any) (Q' := Q) (l.drop n) n listed a' w' (fun j => by simp [List.getElem?_drop]) (by rw [hdl]; exact hL.1) (hL.2 w' hw')
    rwa [hdl] at this) _ _ _ _ ⟨⟨_, ext_drew w⟩, rfl⟩ H
  rw [htl, show n + (l.toArray.size - n) = l.toArray.size by omega] at this
  exact this

/-! ### a region within a round, opened as in a plain frame -/

theorem wpIn_wd {P : Program} {o : Oper} {a : Act} {w : World} {K : Act → World → Prop} {Q : Exit → Act → World → Prop} {r : Option Nat} {m : Nat} (hd : ∀ c, o.op ≠ .defer c)
    (h : o.wpIn Fence.wide m P a w K Q) : o.wpIn (Wd r) m P a w K Q := by
  refine ⟨fun _ _ => trivial, ?_⟩
  have h2 := h.2
  show o.uponIn _ _ _ _ _ _ ((o.semAt r a.eval).run P w)
  rw [semAt_wd _ _ _ hd]
  have e : (o.semAt Fence.wide.round a.eval) = execOp a.eval o := Oper.semAt_none _ _
  rw [e] at h2
  generalize (execOp a.eval o).run P w = rr at *
  cases rr with
  | ok x w' => cases x <;> exact h2
  | halt x w' => cases x <;> exact h2

theorem anyIn_wd {P : Program} {md : Region.Mode} {ops : Array Oper} {Q : Exit → Act → World → Prop} {r : Option Nat} {m : Nat} (hd : ∀ (i : Nat) (o : Oper) c, ops[i]? = some o → o.op ≠ .defer c) :
    ∀ (f : Nat) (listed : Array Bool) (a : Act) (w : World), wpAnyIn Fence.wide m P md ops Q f listed a w → wpAnyIn (Wd r) m P md ops Q f listed a w
  | 0, _, _, _, h => h
  | f + 1, _, _, _, h => ⟨h.1, fun i hi => by
      have h1 := wpOpIn_mono (fun a w => anyIn_wd (r := r) hd f _ a w) (h.2 i hi)
      unfold wpOpIn at h1 ⊢
      cases ho : ops[i]? with
      | none => simp only [ho] at h1 ⊢; exact h1
      | some o =>
        simp only [ho] at h1 ⊢
        split
        · rename_i hw; simp only [hw, if_true] at h1; exact wpIn_wd (fun c => hd i o c ho) h1
        · rename_i hw; simp only [hw] at h1; exact ⟨fun _ _ => trivial, h1.2⟩⟩

theorem wpIn_region_open {P : Program} {r : Option Nat} {id m : Nat} {Q : Exit → Act → World → Prop} {a : Act} {w : World} {l : List Oper} (hm : P.follows .mixedOrders = true) (hd : noDefer l = true)
    (h : ∀ W', Ext w W' → wpAnyIn Fence.wide m P .any l.toArray Q l.toArray.size (Array.replicate l.toArray.size false) a W') : (Code.region id l.toArray true).wpIn (Wd r) m P Q a w :=
  wpIn_region_any hm (anyIn_wd (fun i o c ho hc' => by
    have hmem : o ∈ l := List.mem_of_getElem? (by simpa using ho : l[i]? = some o)
    have := List.all_eq_true.1 hd o hmem
    simp [hc'] at this) _ _ _ _ (h _ (ext_drew w)))

theorem anyIn_of_drop {P : Program} {md : Region.Mode} {F : Fence} {m f : Nat} {Q' : Exit → Act → World → Prop} {L : List Oper} {listed : Array Bool} {a : Act} {w : World} (k : Nat) (hf : f = L.length - k) (hB : Region.seqB md L.toArray (L.length - k) k listed = true)
    (h : wpListIn F m P L.toArray Q' (L.drop k) a w) : wpAnyIn F m P md L.toArray Q' f listed a w := by
  have := anyIn_of_seq (F := F) (m := m) (md := md) (ops := L.toArray) (L.drop k) k listed a w (fun j => by simp [List.getElem?_drop]) (by simpa using hB) h
  rw [hf]; simpa using this
end Go.Proofs.Ytfhgnmijigdlmaa
