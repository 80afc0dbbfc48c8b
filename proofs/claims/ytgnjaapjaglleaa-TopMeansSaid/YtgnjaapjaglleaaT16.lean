/- Contracts of layer 7: Lower, Upper, Medians of the reference; Copy. -/
import Derived.Test.YtgnjaapjaglleaaT15
namespace Go.Proofs.Ytgnjaapjaglleaa
open Go.RowKit
attribute [local go_sem] GW.cell

def rankV (ll : List (List Atom)) (r : Nat) : List Atom := if loadsErr ll = 0 then rankL ll r else []
theorem rank_bad {ll : List (List Atom)} {r : Nat} {w w' : World} (h : loadsErr ll ≠ 0) (hE : Ext w w') : RetAtoms (rankV ll r) (loadsErr ll) w (.returned (.tuple #[.slice none 0 0, .int .i64 (loadsErr ll)])) w' := by
  unfold rankV; rw [if_neg h]; exact retA_nil hE
theorem info22 : (Try.prog.info? 22).map (fun i => (i.zero, i.size, i.bytes)) = some (some (.slice none 0 0), 1, 24) := by kernel_rfl

set_option maxHeartbeats 2000000 in
theorem f27_c (a : Option Addr) (n c : Nat) (l : List (List Atom)) (w : World) (hl : Loads w a l) (hn : l.length = n) (hlen : n ≤ 140737488355328) (hin : ∀ j, (hj : j < l.length) → l[j].length ≤ 140737488355328) :
    Calls Try.prog 27 #[.slice a n c] w (RetAtoms (rankV l 0) (loadsErr l) w) := by
  subst hn
  go_enter Try.func27, Try.ntmps27
  go_wp2_with fail
  refine (f48_c a l.length c l _ hl rfl hlen hin).mono ?_
  rintro e w1 ⟨rfl, hE1⟩
  by_cases h0 : loadsErr l = 0
  · have H0 := Lib.hid h0
    rw [h0]
    have hok := Lib.hid (loadsErr_ok h0)
    have h1 := hok.out.pos
    have h5 := hok.out.five
    clear h0
    go_wp2_with fail
    have hx := f72_c a l.length c l 0 w1 (hl.ext hE1) rfl hok.out (by omega)
    refine hx.mono ?_
    clear hx
    rintro e w2 ⟨v, rfl, hrow, hE2⟩
    obtain ⟨av, cv, rfl⟩ := slice_form hrow
    have Hrow := Lib.hid hrow
    clear hrow
    go_wp2_with fail
    go_ret2
    refine ⟨_, ret_vi rfl H0.out.symm, ?_, hE1.trans' hE2⟩
    unfold rankV
    rw [if_pos H0.out]
    exact row_base Hrow.out hE1.size
  · have hb : (loadsErr l != 0) = true := by simp [h0]
    have H0 := Lib.hid h0
    clear h0
    go_wp2_with fail
    go_ret2
    exact rank_bad H0.out hE1

set_option maxHeartbeats 2000000 in
theorem f28_c (a : Option Addr) (n c : Nat) (l : List (List Atom)) (w : World) (hl : Loads w a l) (hn : l.length = n) (hlen : n ≤ 140737488355328) (hin : ∀ j, (hj : j < l.length) → l[j].length ≤ 140737488355328) :
    Calls Try.prog 28 #[.slice a n c] w (RetAtoms (rankV l (l.length - 1)) (loadsErr l) w) := by
  subst hn
  go_enter Try.func28, Try.ntmps28
  go_wp2_with fail
  refine (f48_c a l.length c l _ hl rfl hlen hin).mono ?_
  rintro e w1 ⟨rfl, hE1⟩
  by_cases h0 : loadsErr l = 0
  · have H0 := Lib.hid h0
    rw [h0]
    have hok := Lib.hid (loadsErr_ok h0)
    have h1 := hok.out.pos
    have h5 := hok.out.five
    clear h0
    have hr1 : ((l.length : Int) - 1) = ((l.length - 1 : Nat) : Int) := by omega
    have Hr1 := Lib.hid hr1
    clear hr1
    go_wp2_with fail
    have hx := f72_c a l.length c l (l.length - 1) w1 (hl.ext hE1) rfl hok.out (by omega)
    rw [← Hr1.out] at hx
    refine hx.mono ?_
    clear hx
    rintro e w2 ⟨v, rfl, hrow, hE2⟩
    obtain ⟨av, cv, rfl⟩ := slice_form hrow
    have Hrow := Lib.hid hrow
    clear hrow
    go_wp2_with fail
    go_ret2
    refine ⟨_, ret_vi rfl H0.out.symm, ?_, hE1.trans' hE2⟩
    unfold rankV
    rw [if_pos H0.out]
    exact row_base Hrow.out hE1.size
  · have hb : (loadsErr l != 0) = true := by simp [h0]
    have H0 := Lib.hid h0
    clear h0
    go_wp2_with fail
    go_ret2
    exact rank_bad H0.out hE1

set_option maxHeartbeats 2000000 in
theorem f54_c (a : Option Addr) (n c : Nat) (l : List (List Atom)) (w : World) (hl : Loads w a l) (hn : l.length = n) (hlen : n ≤ 140737488355328) (hin : ∀ j, (hj : j < l.length) → l[j].length ≤ 140737488355328) :
    Calls Try.prog 54 #[.slice a n c] w (RetAtoms (rankV l ((l.length - 1) / 2)) (loadsErr l) w) := by
  subst hn
  go_enter Try.func54, Try.ntmps54
  go_wp2_with fail
  refine (f48_c a l.length c l _ hl rfl hlen hin).mono ?_
  rintro e w1 ⟨rfl, hE1⟩
  by_cases h0 : loadsErr l = 0
  · have H0 := Lib.hid h0
    rw [h0]
    have hok := Lib.hid (loadsErr_ok h0)
    have h1 := hok.out.pos
    have h5 := hok.out.five
    clear h0
    have hr1 : ((l.length : Int) - 1) / 2 = (((l.length - 1) / 2 : Nat) : Int) := by omega
    have Hr1 := Lib.hid hr1
    clear hr1
    go_wp2_with fail
    have hx := f72_c a l.length c l ((l.length - 1) / 2) w1 (hl.ext hE1) rfl hok.out (by omega)
    rw [← Hr1.out] at hx
    refine hx.mono ?_
    clear hx
    rintro e w2 ⟨v, rfl, hrow, hE2⟩
    obtain ⟨av, cv, rfl⟩ := slice_form hrow
    have Hrow := Lib.hid hrow
    clear hrow
    go_wp2_with fail
    go_ret2
    refine ⟨_, ret_vi rfl H0.out.symm, ?_, hE1.trans' hE2⟩
    unfold rankV
    rw [if_pos H0.out]
    exact row_base Hrow.out hE1.size
  · have hb : (loadsErr l != 0) = true := by simp [h0]
    have H0 := Lib.hid h0
    clear h0
    go_wp2_with fail
    go_ret2
    exact rank_bad H0.out hE1

/-- the rows lie in other blocks than the value's own -/
def FarA (a : Option Addr) (v : Value) : Prop := ∀ b off sp, a = some ⟨b, off, sp⟩ → some b ≠ v.ownBlock
theorem atoms_grown {X Y : World} {a : Option Addr} {l : List Atom} {v : Value} {tmp : Obj} (h : Atoms X a l) (hf : FarA a v) (hg : (X.alloc tmp).grownBy Y v.ownBlock) : Atoms Y a l := fun j hj => by
  obtain ⟨b, off, ha, hb, h1, h2⟩ := h j hj
  have hb2 : b < (X.alloc tmp).heap.size := by simp; omega
  have hne := hf b off none ha
  have hk : ∀ i, Y.cell? ⟨b, i, none⟩ = X.cell? ⟨b, i, none⟩ := fun i => (World.cell?_of_block (hg.block b hb2 hne)).trans ((ext_alloc X tmp).cell' hb)
  exact ⟨b, off, ha, Nat.lt_of_lt_of_le hb2 hg.size, (hk _).trans h1, (hk _).trans h2⟩
theorem far_next {X : World} {a : Option Addr} {v v' : Value} {l : List Atom} {o : Obj} (_h : Atoms X a l) (hf : FarA a v) (hlt : ∀ b off sp, a = some ⟨b, off, sp⟩ → b < X.heap.size) (hat : v'.ownBlock = v.ownBlock ∨ v'.ownBlock = some (X.alloc o).heap.size) : FarA a v' := fun b off sp e => by
  rcases hat with h | h
  · rw [h]; exact hf b off sp e
  · rw [h]; intro h2; have := hlt b off sp e; simp at h2; omega
/-- copies of the first q loads -/
def Copies (W : World) (v : Value) (cs : List Value) (l : List (List Atom)) : Prop :=
  ∀ j, (hj : j < cs.length) → (hj2 : j < l.length) → ∃ a' c', cs[j] = .slice a' l[j].length c' ∧ Atoms W a' l[j] ∧ FarA a' v ∧ ∀ b off sp, a' = some ⟨b, off, sp⟩ → b < W.heap.size
theorem Copies.ext {W W' : World} {v : Value} {cs : List Value} {l : List (List Atom)} (h : Copies W v cs l) (hE : Ext W W') : Copies W' v cs l := fun j hj hj2 => by
  obtain ⟨a', c', h1, h2, h3, h4⟩ := h j hj hj2
  exact ⟨a', c', h1, h2.ext hE, h3, fun b off sp e => Nat.lt_of_lt_of_le (h4 b off sp e) hE.size⟩

theorem atoms_form {W : World} {base : Nat} {v : Value} {T : TypeId} {l : List Atom} {m : Nat} (h : W.ownsRow base T 2 v m ([] ++ atomV l)) : ∃ a c, v = .slice a l.length c ∧ Atoms W a l ∧ (∀ b off sp, a = some ⟨b, off, sp⟩ → base ≤ b ∧ b < W.heap.size) := by
  have h' : W.ownsRow base T 2 v m (atomV l) := h
  obtain ⟨a, c, rfl, hA⟩ := atoms_of_row h'
  refine ⟨a, c, rfl, hA, fun b off sp e => ?_⟩
  rcases h'.2 with ⟨h0, _⟩ | ⟨g, cap, cur, h0, hb, hg, _⟩
  · simp only [Value.slice.injEq] at h0
    rw [h0.1] at e; cases e
  · simp only [Value.slice.injEq] at h0
    rw [h0.1] at e
    simp only [Option.some.injEq, Addr.mk.injEq] at e
    obtain ⟨rfl, -⟩ := e
    exact ⟨hb, (Array.getElem?_eq_some_iff.1 hg).1⟩
theorem far_of_lo {X W : World} {base : Nat} {e : TypeId} {size : Nat} {v : Value} {k : Nat} {xs : List Value} {a : Option Addr} (h : X.ownsRow base e size v k xs) (hlo : ∀ b off sp, a = some ⟨b, off, sp⟩ → X.heap.size ≤ b ∧ b < W.heap.size) : FarA a v := fun b off sp ea => by
  have h1 := hlo b off sp ea
  rcases h.2 with ⟨rfl, _⟩ | ⟨g, cap, cur, rfl, _, hg, _⟩
  · simp [Value.ownBlock]
  · have := (Array.getElem?_eq_some_iff.1 hg).1
    simp [Value.ownBlock]
    omega
theorem copies_next {w1 w2 : World} {u3 v2 : Value} {cs : List Value} {l : List (List Atom)} {q : Nat} {a1 : Option Addr} {c1 : Nat} {o : Obj} (hcs : cs.length = q) (hq : q < l.length) (HC : Copies w1 u3 cs l)
    (hA : Atoms w1 a1 l[q]) (hF : FarA a1 u3) (hlt : ∀ b off sp, a1 = some ⟨b, off, sp⟩ → b < w1.heap.size) (hg : (w1.alloc o).grownBy w2 u3.ownBlock)
    (hat : v2.ownBlock = u3.ownBlock ∨ v2.ownBlock = some (w1.alloc o).heap.size) : Copies w2 v2 (cs ++ [.slice a1 l[q].length c1]) l := fun j hj hj2 => by
  have hsz : w1.heap.size ≤ w2.heap.size := by have := hg.size; simp at this; omega
  by_cases h : j < cs.length
  · obtain ⟨a', c', h1, h2, h3, h4⟩ := HC j h hj2
    refine ⟨a', c', ?_, atoms_grown h2 h3 hg, far_next h2 h3 h4 hat, fun b off sp e => Nat.lt_of_lt_of_le (h4 b off sp e) hsz⟩
    rw [List.getElem_append_left h, h1]
  · have : j = cs.length := by simp at hj; omega
    subst this
    subst hcs
    exact ⟨a1, c1, by simp, atoms_grown hA hF hg, far_next hA hF hlt hat, fun b off sp e => Nat.lt_of_lt_of_le (hlt b off sp e) hsz⟩
theorem loads_of_row {W : World} {base : Nat} {v : Value} {l : List (List Atom)} {cs : List Value} {T : TypeId} (hcs : cs.length = l.length) (h : W.ownsRow base T 1 v l.length cs) (HC : Copies W v cs l) : ∃ a c, v = .slice a l.length c ∧ Loads W a l := by
  rcases h.2 with ⟨rfl, h0⟩ | ⟨g, cap, cur, rfl, hb, hg, h1, h2, h3, h4⟩
  · exact ⟨none, 0, by rw [h0], fun j hj => by omega⟩
  · refine ⟨_, cap, rfl, fun j hj => ?_⟩
    obtain ⟨a', c', e1, e2, _, _⟩ := HC j (by omega) hj
    refine ⟨g, 0, a', c', rfl, (Array.getElem?_eq_some_iff.1 hg).1, ?_, e2⟩
    have hc := h.cells (g := g) rfl j (.slice a' l[j].length c') (by rw [List.getElem?_eq_getElem (by omega), e1])
    rw [add_at] at hc
    exact hc
theorem reads_new1 (w : World) (u : Value) (T : TypeId) : Reads (w.alloc (.cells #[u] T)) (w.alloc (.cells #[u] T)).heap.size 1 (some ⟨w.heap.size, 0, none⟩) 1 [u] :=
  ⟨rfl, fun _ => ⟨_, rfl, by simp, fun j u' hj => by
    match j, hj with
    | 0, hj => simp at hj; subst hj; rw [add_at]; simp
    | j + 1, hj => simp at hj⟩⟩

set_option maxRecDepth 20000 in
set_option maxHeartbeats 8000000 in
theorem f23_c (a : Option Addr) (n c : Nat) (l : List (List Atom)) (w : World) (hl : Loads w a l) (hn : l.length = n) (hlen : n ≤ 1000000) (hin : ∀ j, (hj : j < l.length) → l[j].length ≤ 1000000) :
    Calls Try.prog 23 #[.slice a n c] w fun e w' => ∃ a' c', e = .returned (.slice a' l.length c') ∧ Loads w' a' l ∧ Ext w w' := by
  subst hn
  obtain ⟨i0, hi⟩ := info_parts info66
  have Hi := Lib.hid hi
  obtain ⟨j0, hj⟩ := info_parts info22
  have Hj := Lib.hid hj
  have Hin := Lib.hid hin
  clear hi hj hin
  go_enter Try.func23, Try.ntmps23
  go_wp2_with fail
  go_loopw [3, 4] (fun v i wr => ∃ q : Nat, q ≤ l.length ∧ i = .int .i64 q ∧ Ext w wr ∧ ∃ cs : List Value, Hid (cs.length = q) ∧ Hid (wr.ownsRow w.heap.size 22 1 v q cs) ∧ Hid (Copies wr v cs l)) (fun _ i _ => l.length - (intOf i).toNat)
  case atStart => exact ⟨0, Nat.zero_le _, rfl, Below.refl _ _, [], rfl, World.ownsRow_nil _ _ _ _, fun j hj hj2 => by simp at hj⟩
  case round =>
    obtain ⟨q, hq, rfl, hE, cs, Hcs, H, HC⟩ := hrel
    by_cases hlt : q < l.length
    · obtain ⟨b, off, a', c', rfl, hb, hc, hi⟩ := hl.ext hE q hlt
      have hiq := Hin.out q hlt
      have H1 := Lib.hid (World.ownsRow.alloc H.out (.cells #[] 66))
      have Hrow := Lib.hid (row_empty wr 66 2)
      have Hr := Lib.hid (reads_atoms (hi.ext (ext_alloc wr (.cells #[] 66))))
      have hszr := hE.size
      have Hnn := Lib.hid (row_notnew H.out)
      go_wp2_with (first | (at_builtin; refine wpList_append_any _ rfl (.tmp 12) (.tmp 16) 22 rfl wr.heap.size 66 i0 _ 2 16 Try.underlying22 Hi.out.1 Hi.out.2.1 Hi.out.2.2.1 Hi.out.2.2.2 rfl (by omega) (.slice (some ⟨wr.heap.size, 0, none⟩) 0 0) 0 [] rfl Hrow.out _ a' l[q].length c' (atomV l[q]) rfl Hr.out (atomV_one_cell _) (by unfold maxLen; omega) (by omega) (by simp) ?_; intro v1 w1 hown hgrow hat; have hX1 := Lib.hid (ext_grow (ext_alloc _ _) Hrow.out (Nat.le_refl _) hgrow); have HM := Lib.hid (H1.out.kept hgrow (.inr (Ne.symm Hnn.out))); obtain ⟨a1, c1, rfl, hA1, hlo⟩ := atoms_form hown; have HA1 := Lib.hid hA1; have Hlo := Lib.hid hlo; clear hown hat hgrow hA1 hlo; have HR1 := Lib.hid (reads_new1 w1 (.slice a1 l[q].length c1) 22); have Hsz1 := hX1.out.size) | (at_builtin; refine wpList_append_any _ rfl (.tmp 11) (.tmp 18) 29 rfl w.heap.size 22 j0 _ 1 24 Try.underlying29 Hj.out.1 Hj.out.2.1 Hj.out.2.2.1 Hj.out.2.2.2 rfl (by omega) _ q cs rfl (HM.out.alloc _) _ (some ⟨w1.heap.size, 0, none⟩) 1 1 [.slice a1 l[q].length c1] rfl HR1.out (by simp [Value.oneCell']) (by unfold maxLen; omega) (by omega) (by simp; omega) ?_; intro v2 w2 hown hgrow hat; have hE2 := ext_append (hE.trans' hX1.out) HM.out (Nat.le_refl _) hgrow; have H2 := Lib.hid hown; have HC2 := Lib.hid (copies_next (c1 := c1) Hcs.out hlt (HC.out.ext hX1.out) HA1.out (far_of_lo H.out Hlo.out) (fun b off sp e => (Hlo.out b off sp e).2) hgrow hat); clear hown hgrow hat))
      exact ⟨⟨q + 1, hlt, by go_num, hE2, cs ++ [.slice a1 l[q].length c1], Lib.hid (by simp [Hcs.out]), H2, HC2⟩, by simp [intOf]; omega⟩
    · obtain rfl : q = l.length := by omega
      have hcl := Hcs.out
      go_wp2_with fail
      obtain ⟨ad, cp, rfl, hI⟩ := loads_of_row hcl H.out HC.out
      go_ret
      exact ⟨_, _, rfl, hI, hE⟩

end Go.Proofs.Ytgnjaapjaglleaa
