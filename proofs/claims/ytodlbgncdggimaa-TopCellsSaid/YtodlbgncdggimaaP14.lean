/- Plain words and general laws, merged: P14 T46 P15. -/
import Derived.Test.YtodlbgncdggimaaT43
import Derived.Test.YtodlbgncdggimaaT13
import Derived.Test.YtodlbgncdggimaaT24
import Derived.Deep.LoopGhost
/- Plain words of cells: the weights of Balance are labels from zeros, over all pixels; what it hands back. -/
namespace Go.Proofs.Ytodlbgncdggimaa
open Go.RowKit

/-- what holds of the labels at any time -/
structure BalI (l : List Site) (wd ht : Nat) (O : List Int) (p : Nat → Int) (st : CS) : Prop where
  la : st.at_.length = l.length
  lb : st.by_.length = l.length
  run : RunInv (cArcs (dC l wd) (oF O)) farC l.length (cList (wd * ht) l.length) p (fun _ => 0) (viewC st)
/-- the field, its owners, weights that they fit -/
structure BalCtx (l : List Site) (wd ht : Nat) (O : List Int) (p : Nat → Int) : Prop where
  hc : CellOk l wd ht
  hO : OwnIn O l.length
  hOl : O.length = wd * ht
  hp : FitsTo (dC l wd) (oF O) (wd * ht) l.length p
section
variable {l : List Site} {wd ht : Nat} {O : List Int} {p : Nat → Int} {st : CS}
theorem BalCtx.in_ (c : BalCtx l wd ht O p) : (cArcs (dC l wd) (oF O)).In l.length (cList (wd * ht) l.length) :=
  cArcs_in fun k hk => (oF_lt c.hO (by rw [c.hOl]; exact hk)).1
theorem BalCtx.own (c : BalCtx l wd ht O p) {k : Nat} (hk : k < wd * ht) : oF O k < l.length := (oF_lt c.hO (by rw [c.hOl]; exact hk)).1
theorem BalI.hi (h : BalI l wd ht O p st) (v : Nat) : gi st.at_ v ≤ 0 := h.run.le v
theorem BalI.lo (h : BalI l wd ht O p st) (c : BalCtx l wd ht O p) {v : Nat} (hv : v < l.length) : -13448 ≤ gi st.at_ v := by
  have hn := c.hc.n
  have h1 := h.run.inv.low c.in_ (K := 3362) (F := 0) (by omega) (fun s hs => by
    obtain ⟨a, b⟩ := cList_mem.1 hs
    have h2 := dC_bd c.hc a b
    have h3 := dC_bd c.hc a (c.own a)
    simp only [cArcs]; omega) (fun v hv => Int.le_refl _) hv
  have h2 : ((l.length : Int) - 1) * 3362 ≤ 13448 := by omega
  have : (viewC st).at_ v = gi st.at_ v := rfl
  omega
theorem BalI.relax (h : BalI l wd ht O p st) (c : BalCtx l wd ht O p) {s : Nat × Nat} (hs : s ∈ cList (wd * ht) l.length) :
    BalI l wd ht O p (relaxC l wd O st s) ∧ viewC (relaxC l wd O st s) = (cArcs (dC l wd) (oF O)).relax farC (viewC st) s := by
  obtain ⟨s1, s2⟩ := cList_mem.1 hs
  have hof := c.own s1
  have hfar : gi st.at_ (oF O s.1) < farC := by have := h.hi (oF O s.1); unfold farC; omega
  have hv : viewC (relaxC l wd O st s) = (cArcs (dC l wd) (oF O)).relax farC (viewC st) s := by
    have e : newC l wd O st.at_ s = (viewC st).at_ (oF O s.1) + (cArcs (dC l wd) (oF O)).ln s := by
      show gi st.at_ (oF O s.1) - dC l wd s.1 (oF O s.1) + dC l wd s.1 s.2 = gi st.at_ (oF O s.1) + (dC l wd s.1 s.2 - dC l wd s.1 (oF O s.1))
      omega
    by_cases hcd : newC l wd O st.at_ s < gi st.at_ s.2
    · have hr : (cArcs (dC l wd) (oF O)).relax farC (viewC st) s = (cArcs (dC l wd) (oF O)).put (viewC st) s := by
        unfold Arcs.relax
        rw [if_pos ⟨hfar, by rw [e] at hcd; exact hcd⟩]
      rw [relaxC_yes hcd, hr, e]
      unfold viewC Arcs.put
      congr 1
      · exact funext fun v => by
          rw [gi_set _ _ _ _ (by rw [h.la]; exact s2)]
          by_cases e2 : s.2 = v
          · rw [if_pos e2, ← e2]; show _ = upd _ s.2 _ s.2; rw [upd_same]; rfl
          · rw [if_neg e2]; show _ = upd _ s.2 _ v; rw [upd_ne (fun h => e2 h.symm)]
      · exact funext fun v => by
          rw [gp_set _ _ _ _ (by rw [h.lb]; exact s2)]
          by_cases e2 : s.2 = v
          · rw [if_pos e2, ← e2]
            show (if ((oF O s.1 : Nat) : Int) < 0 then none else some (((s.1 : Nat) : Int).toNat, s.2)) = upd _ s.2 _ s.2
            rw [upd_same, if_neg (by omega), Int.toNat_natCast]
          · rw [if_neg e2]; show _ = upd _ s.2 _ v; rw [upd_ne (fun h => e2 h.symm)]
    · have hr : (cArcs (dC l wd) (oF O)).relax farC (viewC st) s = viewC st := relax_idle (fun h2 => hcd (by rw [e]; exact h2.2))
      rw [relaxC_no hcd, hr]
  refine ⟨⟨?_, ?_, by rw [hv]; exact h.run.relax c.in_ (fits_pot.1 c.hp) hs⟩, hv⟩
  · unfold relaxC; split
    · simp [h.la]
    · exact h.la
  · unfold relaxC; split
    · simp [h.lb]
    · exact h.lb
theorem BalI.last (h : BalI l wd ht O p st) (k : Int) : BalI l wd ht O p { st with last := k } := ⟨h.la, h.lb, h.run.last k⟩
theorem BalI.fold (c : BalCtx l wd ht O p) : ∀ {L : List (Nat × Nat)} {st : CS}, (∀ s ∈ L, s ∈ cList (wd * ht) l.length) → BalI l wd ht O p st →
    BalI l wd ht O p (L.foldl (relaxC l wd O) st) ∧ viewC (L.foldl (relaxC l wd O) st) = L.foldl ((cArcs (dC l wd) (oF O)).relax farC) (viewC st)
  | [], _, _, h => ⟨h, rfl⟩
  | s :: L, st, hL, h => by
    obtain ⟨h1, h2⟩ := h.relax c (hL s List.mem_cons_self)
    rw [List.foldl_cons, List.foldl_cons, ← h2]
    exact BalI.fold c (fun t ht => hL t (List.mem_cons_of_mem _ ht)) h1
theorem BalI.part (h : BalI l wd ht O p st) (c : BalCtx l wd ht O p) {k j : Nat} (hk : k < wd * ht ∨ (k = wd * ht ∧ j = 0)) (hj : j ≤ l.length) : BalI l wd ht O p (partC l wd O st k j) := by
  unfold partC
  rw [← List.foldl_append]
  refine (BalI.fold c (fun s hs => ?_) (h.last (-1))).1
  rcases List.mem_append.1 hs with hs | hs
  · obtain ⟨a, b⟩ := cList_mem.1 hs
    exact cList_mem.2 ⟨by omega, b⟩
  · obtain ⟨q, hq, rfl⟩ := List.mem_map.1 hs
    have := List.mem_range.1 hq
    exact cList_mem.2 ⟨by omega, by show q < l.length; omega⟩
theorem BalI.round (h : BalI l wd ht O p st) (c : BalCtx l wd ht O p) : BalI l wd ht O p (roundC l wd O st (wd * ht)) ∧ viewC (roundC l wd O st (wd * ht)) = (cArcs (dC l wd) (oF O)).round farC (cList (wd * ht) l.length) (viewC st) :=
  BalI.fold c (fun _ hs => hs) (h.last (-1))
theorem BalI.mu (h : BalI l wd ht O p st) (c : BalCtx l wd ht O p) : 0 ≤ muC l st := by
  have h1 : sumN (fun _ => -13448) l.length ≤ sumN (gi st.at_) l.length := sumN_le fun i hi => h.lo c hi
  have h2 : sumN (fun _ => -13448) l.length = -13448 * l.length := by
    have := sumN_mul (-13448) (fun _ => 1) l.length
    rw [sumN_one] at this
    simpa using this
  unfold muC
  omega
theorem BalI.falls (h : BalI l wd ht O p st) (c : BalCtx l wd ht O p) (hl : 0 ≤ (roundC l wd O st (wd * ht)).last) : muC l (roundC l wd O st (wd * ht)) < muC l st := by
  obtain ⟨_, h2⟩ := h.round c
  have h3 : 0 ≤ ((cArcs (dC l wd) (oF O)).round farC (cList (wd * ht) l.length) (viewC st)).last := by rw [← h2]; exact hl
  have h4 := round_sum c.in_ h3
  rw [← h2] at h4
  unfold muC
  have e1 : sumN (viewC (roundC l wd O st (wd * ht))).at_ l.length = sumN (gi (roundC l wd O st (wd * ht)).at_) l.length := rfl
  have e2 : sumN (viewC st).at_ l.length = sumN (gi st.at_) l.length := rfl
  omega
theorem BalI.ends (h : BalI l wd ht O p st) (c : BalCtx l wd ht O p) (hl : (roundC l wd O st (wd * ht)).last < 0) :
    FitsTo (dC l wd) (oF O) (wd * ht) l.length (gi (roundC l wd O st (wd * ht)).at_) := by
  obtain ⟨h1, h2⟩ := h.round c
  have h3 : ((cArcs (dC l wd) (oF O)).round farC (cList (wd * ht) l.length) (viewC st)).last < 0 := by rw [← h2]; exact hl
  obtain ⟨h4, h5⟩ := last_sat h3
  have h6 : (viewC (roundC l wd O st (wd * ht))).at_ = (viewC st).at_ := by rw [h2, h5]
  have h7 : (cArcs (dC l wd) (oF O)).Sat farC (cList (wd * ht) l.length) (viewC (roundC l wd O st (wd * ht))).at_ := by rw [h6]; exact h4
  exact sat_fits (fun k hk => c.own hk) h7 (fun v _ => by
    have := h1.hi v
    show gi _ v < farC
    unfold farC; omega)
theorem bal_start {at_ : List Int} {by_ : List (Int × Int)} (h1 : at_.length = l.length) (h2 : by_.length = l.length) (h3 : ∀ v, gi at_ v = 0) (h4 : ∀ v, gp by_ v = (-1, -1)) (k : Int) :
    BalI l wd ht O p ⟨at_, by_, k⟩ := by
  have e1 : gi at_ = fun _ => 0 := funext h3
  have e2 : (fun v => if (gp by_ v).1 < 0 then none else some ((gp by_ v).2.toNat, v)) = fun _ => (none : Option (Nat × Nat)) := funext fun v => by rw [h4 v]; rfl
  refine ⟨h1, h2, ?_⟩
  have e3 : viewC ⟨at_, by_, k⟩ = ⟨fun _ => 0, fun _ => none, k⟩ := by unfold viewC; rw [e1, e2]
  rw [e3]
  exact run_start (fun v hv => by unfold farC; omega) k
theorem zeros_gi (n v : Nat) : gi (List.replicate n 0) v = 0 := by
  unfold gi
  rw [List.getElem?_replicate]; split <;> rfl
theorem zeros_gp (n v : Nat) : gp (List.replicate n (-1, -1)) v = (-1, -1) := by
  unfold gp
  rw [List.getElem?_replicate]; split <;> rfl
def zeroC (l : List Site) : CS := ⟨List.replicate l.length 0, List.replicate l.length (-1, -1), -1⟩
theorem zeroC_ok : BalI l wd ht O p (zeroC l) := bal_start (by simp) (by simp) (zeros_gi _) (zeros_gp _) _

/-! the sites with other weights -/
/-- the sites with these weights -/
def setW (l : List Site) (W : List Int) : List Site := List.zipWith (fun s w => ⟨s.x, s.y, w⟩) l W
theorem setW_len {W : List Int} (h : W.length = l.length) : (setW l W).length = l.length := by unfold setW; rw [List.length_zipWith]; omega
theorem setW_at {W : List Int} (h : W.length = l.length) {j : Nat} (hj : j < l.length) (hj2 : j < (setW l W).length) : (setW l W)[j] = ⟨l[j].x, l[j].y, gi W j⟩ := by
  have e : (setW l W)[j]? = some ⟨l[j].x, l[j].y, gi W j⟩ := by
    unfold setW
    rw [List.getElem?_zipWith, List.getElem?_eq_getElem hj, List.getElem?_eq_getElem (by omega), gi_at (by omega)]
  rw [List.getElem?_eq_getElem hj2] at e
  injection e
theorem setW_set {W : List Int} (h : W.length = l.length) {j : Nat} (hj : j < l.length) (v : Int) : (setW l W).set j ⟨l[j].x, l[j].y, v⟩ = setW l (W.set j v) := by
  refine List.ext_getElem (by rw [List.length_set, setW_len h, setW_len (by simpa using h)]) fun q a b => ?_
  have hq : q < l.length := by rw [List.length_set, setW_len h] at a; exact a
  rw [setW_at (by simpa using h) hq, List.getElem_set]
  by_cases e : j = q
  · subst e
    rw [if_pos rfl, gi_set _ _ _ _ (by omega), if_pos rfl]
  · rw [if_neg e, setW_at h hq, gi_set _ _ _ _ (by omega), if_neg e]
theorem setW_ok {W : List Int} (hok : okSites l = true) (h : W.length = l.length) (hW : ∀ v, v < l.length → -20000 ≤ gi W v ∧ gi W v ≤ 20000) : okSites (setW l W) = true := by
  have h5 := okSites_len hok
  refine okSites_yes (by rw [setW_len h]; exact h5.1) (by rw [setW_len h]; exact h5.2) fun j _ hj => ?_
  have hj' : j < l.length := by rw [setW_len h] at hj; exact hj
  rw [setW_at h hj']
  have := okSites_at hok hj'
  simp only [okSite, Bool.and_eq_true] at this ⊢
  exact ⟨this.1, withinB_iff.2 (hW j hj')⟩
theorem setW_sq {W : List Int} (h : W.length = l.length) (wd k i : Nat) : dC (setW l W) wd k i = dC l wd k i := by
  unfold dC sqAt
  by_cases hi : i < l.length
  · have hi2 : i < (setW l W).length := by rw [setW_len h]; exact hi
    rw [List.getElem?_eq_getElem hi, List.getElem?_eq_getElem hi2, setW_at h hi]; rfl
  · have h1 : l.length ≤ i := by omega
    have h2 : (setW l W).length ≤ i := by rw [setW_len h]; exact h1
    rw [List.getElem?_eq_none h1, List.getElem?_eq_none h2]
end
end Go.Proofs.Ytodlbgncdggimaa
/- Contract of cells: Balance. A range over a function within a loop: each pass leaves one block of deferred calls more. -/
namespace Go.Proofs.Ytodlbgncdggimaa
open Go.RowKit
attribute [local go_sem] GW.cell Oper.semAt_some wide_depth

/-! the blocks of deferred calls that the passes leave -/
def mark (D : Nat) : Deferred := { target := .collected D, args := #[] }
/-- blocks of no deferred calls, none twice -/
def Shut (W : World) (B : Nat) (Ds : List Nat) : Prop := Ds.Nodup ∧ ∀ D, D ∈ Ds → B ≤ D ∧ W.heap[D]? = some (.deferred (some []))
theorem shut_nil (W : World) (B : Nat) : Shut W B [] := ⟨List.nodup_nil, fun D h => by simp at h⟩
theorem Shut.lt {W : World} {B : Nat} {Ds : List Nat} (h : Shut W B Ds) : ∀ D, D ∈ Ds → D < W.heap.size := fun D hD => (Array.getElem?_eq_some_iff.1 (h.2 D hD).2).1
theorem Shut.ext {W X : World} {B : Nat} {Ds : List Nat} (h : Shut W B Ds) (hE : Ext W X) : Shut X B Ds :=
  ⟨h.1, fun D hD => ⟨(h.2 D hD).1, (hE.block D (h.lt D hD)).trans (h.2 D hD).2⟩⟩
theorem Shut.cons {W : World} {B D : Nat} {Ds : List Nat} (h : Shut W B Ds) (hD : W.heap[D]? = some (.deferred (some []))) (hB : B ≤ D) (hn : ∀ d, d ∈ Ds → d < D) : Shut W B (D :: Ds) :=
  ⟨List.nodup_cons.2 ⟨fun h2 => by have := hn D h2; omega, h.1⟩, fun d hd => by
    rcases List.mem_cons.1 hd with rfl | hd
    · exact ⟨hB, hD⟩
    · exact h.2 d hd⟩
theorem Shut.keep {X Y : World} {B B0 : Nat} {Ds : List Nat} {row : Option Nat} (h : Shut X B Ds) (hlt : ∀ d, d ∈ Ds → d < B0) (hg : X.grownBy Y row) (hr : ∀ r, row = some r → B0 ≤ r ∧ ∃ o : Obj, X.heap[r]? = some o ∧ o.isCells = false) : Shut Y B Ds :=
  ⟨h.1, fun D hD => ⟨(h.2 D hD).1, (hg.block D (h.lt D hD) (fun e => by have := (hr D e.symm).1; have := hlt D hD; omega)).trans (h.2 D hD).2⟩⟩
theorem Shut.set {W : World} {B : Nat} {Ds : List Nat} (h : Shut W B Ds) {p : Addr} {c : Array Value} {t : TypeId} {n : Nat × Nat} (hc : W.heap[p.block]? = some (.cells c t n)) (u : Value) : Shut (W.setCell p u) B Ds :=
  ⟨h.1, fun D hD => ⟨(h.2 D hD).1, (Below.heap_setCell W p u D (fun e => by subst e; have := (h.2 _ hD).2; rw [hc] at this; cases this)).trans (h.2 D hD).2⟩⟩
theorem leaves_all {P : Program} {fn : Func} {tmps : Array Value} {R : Ending → World → Prop} {B : Nat} (K : World → Prop) (hK : ∀ W D, K W → B ≤ D → W.heap[D]? = some (.deferred (some [])) → K (W.putObj D (.deferred none)))
    (hend : ∀ W, K W → ∃ v, (results fn tmps).run P W = .ok v W ∧ R (.returned v) W) : ∀ (Ds : List Nat) (W : World), Shut W B Ds → K W → LeavesInM Fence.wide 0 P fn tmps R (Ds.map mark) .returning W
  | [], W, _, h => hend W h
  | D :: Ds, W, hS, h => by
    have hD := hS.2 D List.mem_cons_self
    have hn := (List.nodup_cons.1 hS.1)
    refine ⟨by simp, .inl ⟨D, _, rfl, run_takeDeferred hD.2, leaves_all K hK hend Ds _ ⟨hn.2, fun d hd => ?_⟩ (hK W D h hD.1 hD.2)⟩⟩
    have := hS.2 d (List.mem_cons_of_mem _ hd)
    exact ⟨this.1, (World.putObj_heap_other (fun e => hn.1 (by rw [← e]; exact hd))).trans this.2⟩
theorem ints_put {W : World} {a : Option Addr} {O : List Int} {D : Nat} {x : Option (List Deferred)} (h : Ints W a O) (hD : W.heap[D]? = some (.deferred x)) (o : Obj) : Ints (W.putObj D o) a O := fun i hi => by
  obtain ⟨b, off, e, hb, hc⟩ := h i hi
  refine ⟨b, off, e, by rw [World.putObj_size]; exact hb, ?_⟩
  rw [← hc]
  by_cases e2 : b = D
  · subst e2
    rw [World.cell?, hD] at hc
    simp at hc
  · unfold World.cell?
    rw [World.putObj_heap_other e2]
theorem row_block {W : World} {base n cap g : Nat} {e : TypeId} {size : Nat} {xs : List Value} (h : W.ownsRow base e size (.slice (some ⟨g, 0, none⟩) n cap) n xs) : ∃ c k, W.heap[g]? = some (.cells c e k) := by
  rcases h.2 with ⟨h2, _⟩ | ⟨g', cap', cur, h1, _, h3, _⟩
  · cases h2
  · cases h1; exact ⟨cur, _, h3⟩

/-- what Balance hands back -/
def BalOf (l : List Site) (x y : Int) (S : List Int) (L : List Site) (O : List Int) : Prop :=
  (okShared l x y S = false → L = [] ∧ O = []) ∧
  (okShared l x y S = true → ShareOf l x.toNat y.toNat S O ∧ ∃ W : List Int, W.length = l.length ∧ (∀ v, v < l.length → -20000 ≤ gi W v ∧ gi W v ≤ 20000) ∧ L = setW l W ∧ FitsTo (dC l x.toNat) (oF O) (x.toNat * y.toNat) l.length (gi W))
def RetBal (l : List Site) (x y : Int) (S : List Int) (w : World) (e : Ending) (w' : World) : Prop :=
  ∃ L O a c b d, e = .returned (.tuple #[.slice a L.length c, .slice b O.length d, .int .i64 (errOf (okShared l x y S))]) ∧ Sites w' a L ∧ Ints w' b O ∧ BalOf l x y S L O ∧ Ext w w'

/-! the steps of a pass -/
/-- the owner's power, told at the pixel's beginning -/
def ownB (l : List Site) (wd : Nat) (O : List Int) (W : List Int) (k : Nat) : Int := dC l wd k (oF O k) - gi W (oF O k)
theorem own_step {l : List Site} {wd : Nat} {O : List Int} {st : CS} {k j : Nat} (h : st.at_.length = l.length) (hj : j < l.length) : ownB l wd O (relaxC l wd O st (k, j)).at_ k = ownB l wd O st.at_ k := by
  unfold relaxC
  split
  · rename_i hc
    unfold ownB
    show _ - gi (st.at_.set j _) _ = _
    rw [gi_set _ _ _ _ (by omega)]
    by_cases e : j = oF O k
    · subst e
      unfold newC at hc
      simp only at hc
      omega
    · rw [if_neg e]
  · rfl
theorem own_keep {l : List Site} {wd : Nat} {O : List Int} {st : CS} {k : Nat} (h : ∀ j, j ≤ l.length → (partC l wd O st k j).at_.length = l.length) : ∀ j, j ≤ l.length → ownB l wd O (partC l wd O st k j).at_ k = ownB l wd O (partC l wd O st k 0).at_ k
  | 0, _ => rfl
  | j + 1, hj => by
    rw [partC_succ, own_step (h j (by omega)) (by omega)]
    exact own_keep h j (by omega)
theorem less_iff {l : List Site} {wd : Nat} {O : List Int} {W : List Int} {k j : Nat} : newC l wd O W (k, j) < gi W j ↔ dC l wd k j - gi W j < ownB l wd O W k := by
  unfold newC ownB; constructor <;> (intro h; simp only at *; omega)
theorem new_is {l : List Site} {wd : Nat} {O : List Int} {W : List Int} {k j : Nat} : gi W j - (ownB l wd O W k - (dC l wd k j - gi W j)) = newC l wd O W (k, j) := by
  unfold newC ownB; simp only; omega
/-- sites with weights, in memory -/
theorem setW_row {l : List Site} {W : List Int} (h : W.length = l.length) {j : Nat} (hj : j < l.length) (v : Int) : (sitesV (setW l W)).set (j * 3 + 2) (.int .i64 v) = sitesV (setW l (W.set j v)) := by
  rw [sitesV_set (setW l W) j (by rw [setW_len h]; exact hj) v, ← setW_set h hj v, setW_at h hj]
theorem setW_cells {l : List Site} {W : List Int} (h : W.length = l.length) {j : Nat} (hj : j < l.length) : (sitesV (setW l W))[j * 3]? = some (.int .i64 l[j].x) ∧ (sitesV (setW l W))[j * 3 + 1]? = some (.int .i64 l[j].y) ∧ (sitesV (setW l W))[j * 3 + 2]? = some (.int .i64 (gi W j)) := by
  have := sitesV_at (setW l W) j (by rw [setW_len h]; exact hj)
  rw [setW_at h hj] at this
  exact this
theorem setW_self (l : List Site) : setW l (l.map (·.w)) = l := by
  refine List.ext_getElem (setW_len (by simp)) fun j a b => ?_
  rw [setW_at (by simp) b, gi_at (by simpa using b)]
  simp
/-- weights, the first q of them zero -/
def zerTo (l : List Site) (q : Nat) : List Int := (List.range l.length).map fun i => if i < q then 0 else gi (l.map (·.w)) i
theorem zerTo_len (l : List Site) (q : Nat) : (zerTo l q).length = l.length := by simp [zerTo]
theorem zerTo_gi {l : List Site} {q i : Nat} (hi : i < l.length) : gi (zerTo l q) i = if i < q then 0 else gi (l.map (·.w)) i := by
  rw [gi_at (by rw [zerTo_len]; exact hi)]
  simp [zerTo]
theorem gi_ext {a b : List Int} (h : a.length = b.length) (h2 : ∀ i, i < a.length → gi a i = gi b i) : a = b :=
  List.ext_getElem h fun i x y => by have := h2 i x; rwa [gi_at x, gi_at y] at this
theorem zerTo_zero (l : List Site) : zerTo l 0 = l.map (·.w) := gi_ext (by simp [zerTo]) fun i hi => by rw [zerTo_gi (by simpa [zerTo] using hi), if_neg (by omega)]
theorem zerTo_succ {l : List Site} {q : Nat} (hq : q < l.length) : (zerTo l q).set q 0 = zerTo l (q + 1) := gi_ext (by simp [zerTo]) fun i hi => by
  have hi' : i < l.length := by simpa [zerTo] using hi
  rw [gi_set _ _ _ _ (by rw [zerTo_len]; exact hq), zerTo_gi hi', zerTo_gi hi']
  by_cases e : q = i
  · rw [if_pos e, if_pos (by omega)]
  · rw [if_neg e]
    by_cases e2 : i < q
    · rw [if_pos e2, if_pos (by omega)]
    · rw [if_neg e2, if_neg (by omega)]
theorem zerTo_all (l : List Site) : zerTo l l.length = (zeroC l).at_ := gi_ext (by simp [zerTo, zeroC]) fun i hi => by
  have hi' : i < l.length := by simpa [zerTo] using hi
  rw [zerTo_gi hi', if_pos hi']
  exact (zeros_gi _ _).symm
theorem sweep_all {l : List Site} {wd ht : Nat} {O : List Int} {p : Nat → Int} {st : CS} (hI : BalI l wd ht O p st) (c : BalCtx l wd ht O p) {k : Nat} (hk : k < wd * ht) : ∃ (A : Nat → List Int) (L : Nat → Int) (own : Int),
    (∀ j, j ≤ l.length → (A j).length = l.length ∧ ∀ v, v < l.length → -13448 ≤ gi (A j) v ∧ gi (A j) v ≤ 0) ∧
    (∀ j, j < l.length → dC l wd k j - gi (A j) j < own → A (j + 1) = (A j).set j (gi (A j) j - (own - (dC l wd k j - gi (A j) j))) ∧ 0 ≤ L (j + 1)) ∧
    (∀ j, j < l.length → ¬ dC l wd k j - gi (A j) j < own → A (j + 1) = A j ∧ L (j + 1) = L j) ∧
    own = dC l wd k (oF O k) - gi (A 0) (oF O k) ∧ A 0 = (partC l wd O st k 0).at_ ∧ L 0 = (partC l wd O st k 0).last ∧ A l.length = (partC l wd O st (k + 1) 0).at_ ∧ L l.length = (partC l wd O st (k + 1) 0).last := by
  have hp : ∀ j, j ≤ l.length → BalI l wd ht O p (partC l wd O st k j) := fun j hj => hI.part c (.inl hk) hj
  have hown := own_keep (O := O) (wd := wd) (st := st) (k := k) (fun j hj => (hp j hj).la)
  refine ⟨fun j => (partC l wd O st k j).at_, fun j => (partC l wd O st k j).last, ownB l wd O (partC l wd O st k 0).at_ k, fun j hj => ⟨(hp j hj).la, fun v hv => ⟨(hp j hj).lo c hv, (hp j hj).hi v⟩⟩, fun j hj h => ?_, fun j hj h => ?_, rfl, rfl, rfl, congrArg CS.at_ (partC_row l wd O st k), congrArg CS.last (partC_row l wd O st k)⟩
  · have e := hown j (by omega)
    simp only at h ⊢
    rw [← e] at h ⊢
    rw [partC_succ, relaxC_yes (less_iff.2 h)]
    refine ⟨?_, by show (0 : Int) ≤ ((j : Nat) : Int); omega⟩
    show (partC l wd O st k j).at_.set j _ = _
    rw [new_is]
  · have e := hown j (by omega)
    simp only at h ⊢
    rw [← e] at h
    rw [partC_succ, relaxC_no (fun h2 => h (less_iff.1 h2))]
    exact ⟨rfl, rfl⟩
theorem near_w {l : List Site} {wd ht k j : Nat} (hc : CellOk l wd ht) (hk : k < wd * ht) (hj : j < l.length) {v : Int} (h1 : -20000 ≤ v) (h2 : v ≤ 20000) : Near ⟨l[j].x, l[j].y, v⟩ ((k : Int) % (wd : Int)) ((k : Int) / (wd : Int)) := by
  have := okSites_at hc.sites hj
  refine ⟨?_, (pix_in2 hc.w1 hc.w2 (k := k) (by have := hc.pix; omega)).1⟩
  simp only [okSite, Bool.and_eq_true] at this ⊢
  exact ⟨this.1, withinB_iff.2 ⟨h1, h2⟩⟩
theorem pow_w {l : List Site} {wd k j : Nat} (hj : j < l.length) (v : Int) : pow ⟨l[j].x, l[j].y, v⟩ ((k : Int) % (wd : Int)) ((k : Int) / (wd : Int)) = dC l wd k j - v := by
  unfold dC
  rw [sqAt_in hj]; rfl
end Go.Proofs.Ytodlbgncdggimaa
/- Plain law of Balance: what it hands back is a balance, and the dual, the cost and the least cost agree. -/
namespace Go.Proofs.Ytodlbgncdggimaa
open Go.RowKit

/-- all that the law asks of what Balance hands back -/
structure BalSaid (l : List Site) (x y : Int) (S : List Int) (L : List Site) (O : List Int) : Prop where
  len : L.length = l.length
  same : ∀ j (h : j < L.length) (h2 : j < l.length), L[j].x = l[j].x ∧ L[j].y = l[j].y
  shared : okShared L x y S = true
  owned : okOwned l x y O = true
  ownedL : okOwned L x y O = true
  fits : fitsVal L x y O = true
  cnt : countL l.length O = S
  own : OwnIn O l.length
  small : l.length ≤ 5 ∧ O.length ≤ 144
  dual : dualV L x y S = costTo l x.toNat O O.length
  least : ∀ v, LeastOf l x y S v → v = costTo l x.toNat O O.length
theorem field_setW {l : List Site} {x y : Int} {W : List Int} (hF : okField l x y = true) (h : W.length = l.length) (hW : ∀ v, v < l.length → -20000 ≤ gi W v ∧ gi W v ≤ 20000) : okField (setW l W) x y = true := by
  simp only [okField, Bool.and_eq_true] at hF ⊢
  exact ⟨setW_ok hF.1 h hW, hF.2⟩
theorem costTo_setW {l : List Site} {W : List Int} (h : W.length = l.length) (wd : Nat) (O : List Int) (k : Nat) : costTo (setW l W) wd O k = costTo l wd O k := by
  rw [cost_c, cost_c]
  congr 1
  exact funext fun a => funext fun b => setW_sq h wd a b
theorem bal_said {l : List Site} {x y : Int} {S : List Int} {L : List Site} {O : List Int} (hok : okShared l x y S = true) (h : BalOf l x y S L O) : BalSaid l x y S L O := by
  obtain ⟨hsh, W, hW, hWb, rfl, hfit⟩ := h.2 hok
  obtain ⟨hF, s2, s3, s4⟩ := shared_spec.1 hok
  obtain ⟨f0, f1, f2, f3, f4⟩ := okField_bd hF
  have hFL := field_setW hF hW hWb
  have hlen := setW_len (l := l) hW
  obtain ⟨wd, rfl⟩ := Int.eq_ofNat_of_zero_le (a := x) (by omega)
  obtain ⟨ht, rfl⟩ := Int.eq_ofNat_of_zero_le (a := y) (by omega)
  rw [Int.toNat_natCast, Int.toNat_natCast] at hsh hfit
  have hcell : CellOk l wd ht := ⟨f0, by omega, by omega, by omega⟩
  have hO : (O.length : Int) = (wd : Int) * (ht : Int) := by rw [hsh.len]; simp
  have hsL : okShared (setW l W) wd ht S = true := shared_spec.2 ⟨hFL, by rw [hlen]; exact s2, s3, s4⟩
  have hno : ∀ (L : List Site), L.length = l.length → O.all (isNo L) = true := fun L hL => by
    rw [List.all_eq_true]
    intro z hz
    obtain ⟨j, hj, rfl⟩ := List.getElem_of_mem hz
    obtain ⟨i, h1, h2⟩ := hsh.own j hj
    rw [h1, isNo, withinB_iff, hL]; omega
  have how : okOwned l wd ht O = true := by simp only [okOwned, Bool.and_eq_true, decide_eq_true_eq]; exact ⟨hF, hO, hno l rfl⟩
  have howL : okOwned (setW l W) wd ht O = true := by simp only [okOwned, Bool.and_eq_true, decide_eq_true_eq]; exact ⟨hFL, hO, hno _ hlen⟩
  have hcnt : countL l.length O = S := by
    refine gi_ext (by rw [countL, countTo_length, s2]) fun i hi => ?_
    have hi' : i < l.length := by rw [countL, countTo_length] at hi; exact hi
    have h1 := cnt_c hsh.own i O.length (Nat.le_refl _)
    have h2 := hsh.cnt i hi'
    rw [← hsh.len, ← h1] at h2
    rw [← h2]
    unfold gi countL
    rw [countTo_at hi']; rfl
  have hpw : ∀ k j, j < l.length → pw (setW l W) (pxx wd k) (pxy wd k) j = dC l wd k j - gi W j := fun k j hj => by
    have hj2 : j < (setW l W).length := by rw [hlen]; exact hj
    rw [pw_in hj2, setW_at hW hj]
    exact pow_w hj _
  have hfits : fitsVal (setW l W) wd ht O = true := by
    rw [fitsVal, howL, Bool.true_and]
    refine fitsB_yes fun k hk => ?_
    have hkp : k < wd * ht := by rw [← hsh.len]; exact hk
    obtain ⟨o1, o2⟩ := oF_lt hsh.own hk
    unfold fitAt
    show pw (setW l W) (pxx wd k) (pxy wd k) (oF O k) = leastP (setW l W) (pxx wd k) (pxy wd k)
    obtain ⟨g1, i, g2, g3⟩ := leastP_spec (setW l W) (pxx wd k) (pxy wd k) (by rw [hlen]; exact hcell.n.1)
    have g4 := g1 (oF O k) (by rw [hlen]; exact o1)
    have hi : i < l.length := by have := g3.1; rwa [hlen] at this
    have h5 := hfit k hkp i hi
    rw [← g2] at g4 ⊢
    rw [hpw k _ o1, hpw k i hi] at g4 ⊢
    omega
  have hd := (duals_said howL).2.2 hfits
  rw [hlen, hcnt, Int.toNat_natCast, costTo_setW hW] at hd
  refine ⟨hlen, fun j a b => by rw [setW_at hW b]; exact ⟨rfl, rfl⟩, hsL, how, howL, hfits, hcnt, hsh.own, ⟨hcell.n.2, by rw [hsh.len]; exact hcell.pix⟩, hd, fun v hv => ?_⟩
  refine least_same hv ⟨(fun h => by rw [hok] at h; cases h), fun _ => ⟨O, by rw [Int.toNat_natCast, Int.toNat_natCast]; exact hsh, by rw [Int.toNat_natCast, Int.toNat_natCast, hsh.len]⟩⟩
end Go.Proofs.Ytodlbgncdggimaa
