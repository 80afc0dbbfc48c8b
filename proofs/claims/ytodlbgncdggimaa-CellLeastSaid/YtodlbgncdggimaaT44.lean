/- Contracts of cells: improve of the reference. -/
import Derived.Test.YtodlbgncdggimaaT43
import Derived.Test.YtodlbgncdggimaaP13
namespace Go.Proofs.Ytodlbgncdggimaa
open Go.RowKit
attribute [local go_sem] GW.cell Oper.semAt_some wide_depth
/-- what the labels are within -/
structure Bnd (n : Nat) (T : Int) (st : IS) : Prop where
  la : st.at_.length = n
  lb : st.by_.length = n
  bd : ∀ v, -T ≤ gi st.at_ v ∧ gi st.at_ v ≤ 0
  nat : ∀ v, v < n → 0 ≤ gi st.by_ v ∧ gi st.by_ v < n
section
variable {d : Nat → Nat → Int} {O : Nat → Nat} {m n : Nat}
theorem Bnd.relax {T K : Int} {st : IS} (h : Bnd n T st) (hK : ∀ i k q, i < n → k < n → chg d O i k m = some q → -K ≤ q.2) (h0 : 0 ≤ K) {s : Nat × Nat} (hs : s ∈ cList n n) : Bnd n (T + K) (relaxI d O m st s) := by
  obtain ⟨s1, s2⟩ := cList_mem.1 hs
  by_cases hg : goI d O m st.at_ s = true
  · rw [relaxI_yes hg]
    unfold goI at hg
    cases hq : chg d O s.1 s.2 m with
    | none => rw [hq] at hg; simp at hg
    | some q =>
      rw [hq] at hg
      simp only [Bool.and_eq_true, Bool.not_eq_true', decide_eq_false_iff_not, decide_eq_true_eq] at hg
      have h1 := hK _ _ _ s1 s2 hq
      have h2 := h.bd s.1
      have h3 := h.bd s.2
      refine ⟨by simp [h.la], by simp [h.lb], fun v => ?_, fun v hv => ?_⟩
      · show -(T + K) ≤ gi (st.at_.set s.2 _) v ∧ gi (st.at_.set s.2 _) v ≤ 0
        rw [gi_set _ _ _ _ (by rw [h.la]; exact s2)]
        have h4 := h.bd v
        split
        · simp only [Option.getD_some]; omega
        · omega
      · show 0 ≤ gi (st.by_.set s.2 _) v ∧ gi (st.by_.set s.2 _) v < n
        rw [gi_set _ _ _ _ (by rw [h.lb]; exact s2)]
        split
        · omega
        · exact h.nat v hv
  · rw [relaxI_no (by simpa using hg)]
    exact ⟨h.la, h.lb, fun v => by have := h.bd v; omega, h.nat⟩
theorem Bnd.mono {T T2 : Int} {st : IS} (h : Bnd n T st) (hT : T ≤ T2) : Bnd n T2 st := ⟨h.la, h.lb, fun v => by have := h.bd v; omega, h.nat⟩
theorem Bnd.fold {K : Int} (hK : ∀ i k q, i < n → k < n → chg d O i k m = some q → -K ≤ q.2) (h0 : 0 ≤ K) : ∀ {L : List (Nat × Nat)} {T : Int} {st : IS}, (∀ s ∈ L, s ∈ cList n n) → Bnd n T st → Bnd n (T + K * L.length) (L.foldl (relaxI d O m) st)
  | [], _, _, _, h => h.mono (by simp)
  | s :: L, T, st, hL, h => by
    rw [List.foldl_cons]
    refine (Bnd.fold hK h0 (fun t ht => hL t (List.mem_cons_of_mem _ ht)) (h.relax hK h0 (hL s List.mem_cons_self))).mono ?_
    rw [List.length_cons, Int.natCast_add, Int.mul_add]; omega
theorem cList_length (i n : Nat) : (cList i n).length = i * n := by
  induction i with
  | zero => simp [cList]
  | succ i ih => rw [cList_succ, List.length_append, ih]; simp [Nat.add_mul]
theorem Bnd.part {T : Int} {st : IS} (h : Bnd n T st) (hK : ∀ i k q, i < n → k < n → chg d O i k m = some q → -3362 ≤ q.2) (h5 : n ≤ 5) {i k : Nat} (hi : i < n ∨ (i = n ∧ k = 0)) (hk : k ≤ n) : Bnd n (T + 84050) (partI d O m n st i k) := by
  unfold partI
  rw [← List.foldl_append]
  have h1 := Bnd.fold (d := d) (O := O) (m := m) hK (by omega) (L := cList i n ++ (List.range k).map fun q => (i, q)) (T := T) (st := { st with last := -1 }) (fun s hs => by
    rcases List.mem_append.1 hs with hs | hs
    · obtain ⟨a, b⟩ := cList_mem.1 hs
      exact cList_mem.2 ⟨by omega, b⟩
    · obtain ⟨q, hq, rfl⟩ := List.mem_map.1 hs
      have := List.mem_range.1 hq
      exact cList_mem.2 ⟨by show i < n; omega, by show q < n; omega⟩) ⟨h.la, h.lb, h.bd, h.nat⟩
  refine h1.mono ?_
  have h2 : i * n + k ≤ 25 := by
    rcases hi with hi | ⟨rfl, rfl⟩
    · have : i * n ≤ 4 * n := Nat.mul_le_mul_right n (by omega)
      omega
    · have : i * i ≤ 5 * i := Nat.mul_le_mul_right i h5
      omega
  rw [List.length_append, cList_length, List.length_map, List.length_range]
  omega
theorem Bnd.reach {st : IS} (h : Bnd n 0 st) (hK : ∀ i k q, i < n → k < n → chg d O i k m = some q → -3362 ≤ q.2) (h5 : n ≤ 5) : ∀ r : Nat, Bnd n (84050 * r) (reachI d O m n st r)
  | 0 => h.mono (by omega)
  | r + 1 => (Bnd.part (h.reach hK h5 r) hK h5 (.inr ⟨rfl, rfl⟩) (by omega)).mono (by omega)
end
/-- what improve hands back -/
def RetImp (l : List Site) (wd ht : Nat) (B g m cap : Nat) (O : List Int) (w : World) (e : Ending) (w' : World) : Prop :=
  ∃ bl O2, e = .returned (.bool bl) ∧ OwnG w' 3 B g m cap O2 ∧ (∀ w0, Ext w0 w → w0.heap.size ≤ g → Ext w0 w') ∧ (bl = false → O2 = O ∧ ∃ p, FitsTo (dC l wd) (oF O) m l.length p) ∧ (bl = true → Better l wd ht O O2)
theorem row_apart {W X : World} {base : Nat} {e : TypeId} {size k : Nat} {v v' : Value} {xs : List Value} (h : W.ownsRow base e size v k xs) (hg : W.grownBy X v'.ownBlock) (hne : ∀ b, v.ownBlock = some b → v'.ownBlock ≠ some b) : X.ownsRow base e size v k xs := by
  refine ⟨h.1, ?_⟩
  rcases h.2 with h0 | ⟨g, cap, cur, rfl, hbg, hgg, h1, h2, h3⟩
  · exact .inl h0
  · refine .inr ⟨g, cap, cur, rfl, hbg, ?_, h1, h2, h3⟩
    have hlt := (Array.getElem?_eq_some_iff.1 hgg).1
    exact (hg.block g hlt (fun e => hne g rfl e.symm)).trans hgg
theorem row_blk {W : World} {base : Nat} {e : TypeId} {size k : Nat} {v : Value} {xs : List Value} (h : W.ownsRow base e size v k xs) {b : Nat} (hb : v.ownBlock = some b) : b < W.heap.size ∧ base ≤ b := by
  rcases h.2 with ⟨rfl, _⟩ | ⟨g, cap, cur, rfl, hbg, hgg, _⟩
  · simp [Value.ownBlock] at hb
  · have e : g = b := by simpa [Value.ownBlock] using hb
    subst e
    exact ⟨(Array.getElem?_eq_some_iff.1 hgg).1, hbg⟩
def numsTo (f : Nat → Nat) (y : Nat) : List Int := (List.range y).map fun t => (f t : Int)
theorem numsTo_succ (f : Nat → Nat) (y : Nat) : numsTo f (y + 1) = numsTo f y ++ [(f y : Int)] := by simp [numsTo, List.range_succ]
theorem numsTo_length (f : Nat → Nat) (y : Nat) : (numsTo f y).length = y := by simp [numsTo]
theorem numsTo_at {f : Nat → Nat} {y t : Nat} (h : t < y) : gi (numsTo f y) t = (f t : Int) := by simp [gi, numsTo, h]
theorem goI_none {d : Nat → Nat → Int} {O : Nat → Nat} {m : Nat} {at_ : List Int} {i k : Nat} (h : chg d O i k m = none) : goI d O m at_ (i, k) = false := by unfold goI; rw [h]
theorem goI_same {d : Nat → Nat → Int} {O : Nat → Nat} {m : Nat} {at_ : List Int} {i k : Nat} (h : i = k) : goI d O m at_ (i, k) = false := by unfold goI; split <;> simp [h]
theorem goI_no {d : Nat → Nat → Int} {O : Nat → Nat} {m : Nat} {at_ : List Int} {i k : Nat} {q : Nat × Int} (h : chg d O i k m = some q) (h2 : ¬ gi at_ i + q.2 < gi at_ k) : goI d O m at_ (i, k) = false := by unfold goI; rw [h]; simp only [decide_eq_false h2, Bool.and_false]
theorem relaxI_at {d : Nat → Nat → Int} {O : Nat → Nat} {m : Nat} {st : IS} {i k : Nat} {q : Nat × Int} (h : chg d O i k m = some q) (hne : ¬ i = k) (h2 : gi st.at_ i + q.2 < gi st.at_ k) : relaxI d O m st (i, k) = ⟨st.at_.set k (gi st.at_ i + q.2), st.by_.set k (i : Int), k⟩ := by
  have hg : goI d O m st.at_ (i, k) = true := by unfold goI; rw [h]; simp only [decide_eq_false hne, decide_eq_true h2, Bool.not_false, Bool.and_self]
  rw [relaxI_yes hg, h]; rfl
theorem imp_lists {d : Nat → Nat → Int} {O : Nat → Nat} {m n : Nat} {st : IS} (hn : 1 ≤ n) (hO : ∀ k, k < m → O k < n) (h : RelI d O m n st (impS d farI O m n)) (hl : 0 ≤ st.last) :
    ∃ v c pix len, v < n ∧ st.last = (v : Int) ∧ (∀ y, y ≤ n → backI st.by_ v y < n) ∧ backI st.by_ v n = c 0 ∧ (∀ y, y < len → gi st.by_ (c y) = (c (y + 1) : Int)) ∧ ImpGo d O m n c pix len := by
  obtain ⟨v, hv, h1, h2, h3, pix, len, h4, h5⟩ := imp_go (d := d) (far := farI) hn (by unfold farI; omega) hO (by rw [← h.last]; exact hl)
  have hb : ∀ y, y ≤ n → backI st.by_ v y = predK (gArcs d O m) (impS d farI O m n).by_ v y := fun y hy => back_pred h (fun z hz => ⟨h3 z (by omega), h2 z (by omega)⟩)
  refine ⟨v, _, pix, len, hv, h.last.trans h1, fun y hy => by rw [hb y hy]; exact h3 y hy, hb n (Nat.le_refl _), fun y hy => ?_, h5⟩
  obtain ⟨s, hs⟩ := h4 y hy
  have h6 := (h.by_ _ (h5.lt y (by omega)) s hs).1
  rw [h6]
  simp only [predK, predO]
  rw [hs]; rfl
def lenV : Value → Nat
  | .slice _ n _ => n
  | _ => 0
set_option maxRecDepth 20000 in
set_option maxHeartbeats 16000000 in
theorem f84_c (a : Option Addr) (n c : Nat) (l : List Site) (wd ht : Nat) (B g m cap : Nat) (O : List Int) (w : World) (hl : Sites w a l) (hn : l.length = n) (hc : CellOk l wd ht) (hN : m ≤ wd * ht) (hOw : OwnIn O l.length) (hG : OwnG w 3 B g m cap O) :
    Calls Try.prog 84 #[.slice a n c, .int .i64 wd, .slice (some ⟨g, 0, none⟩) m cap] w (RetImp l wd ht B g m cap O w) := by
  subst hn
  have hn5 := hc.n
  have hgs := hG.slot
  have hOl := hG.len
  obtain ⟨i0, hi0⟩ := info_p info3'
  have Hi := Lib.hid hi0
  have HG := Lib.hid hG
  have Hc := Lib.hid hc
  have HOl := Lib.hid hOl
  have HOw := Lib.hid hOw
  have C94 := Lib.hid (fun i k (hi : i < l.length) (hk : k < l.length) W (hW : Ext w W) => f94_c a (some ⟨g, 0, none⟩) l.length c m cap l O wd ht i k W (hl.ext hW) (hG.ints.ext hW) rfl hOl hc hN hOw hi hk)
  have HK : Hid (∀ i k q, i < l.length → k < l.length → chg (dC l wd) (oF O) i k m = some q → -3362 ≤ q.2 ∧ q.2 ≤ 3362) := Lib.hid (fun i k q hi hk hq => by
    obtain ⟨h1, h2, h3, _⟩ := chg_some hq
    have h4 := dC_bd hc (show q.1 < wd * ht by omega) hk
    have h5 := dC_bd hc (show q.1 < wd * ht by omega) hi
    omega)
  have Hbs : Hid (Bnd l.length 0 ⟨List.replicate l.length 0, List.replicate l.length 0, -1⟩) := Lib.hid ⟨by simp, by simp, fun v => by
    have : gi (List.replicate l.length 0) v = 0 := by unfold gi; rw [List.getElem?_replicate]; split <;> rfl
    rw [this]; omega, fun v hv => by rw [gi_rep _ _ _ hv]; omega⟩
  have Hrc := Lib.hid (fun r => Hbs.out.reach (d := dC l wd) (O := oF O) (m := m) (fun i k q hi hk hq => (HK.out i k q hi hk hq).1) hn5.2 r)
  have HRel := Lib.hid (reachI_rel (startI_rel (d := dC l wd) (O := oF O) (m := m) hn5.1) l.length)
  have Hz : Hid ((reachI (dC l wd) (oF O) m l.length ⟨List.replicate l.length 0, List.replicate l.length 0, -1⟩ 0).last = -1) := Lib.hid rfl
  clear hG hc hOl hOw hN hi0 hgs
  go_enter Try.func84, Try.ntmps84
  go_upto_region 2 with fail
  go_cut [8, 9] from 25 to 28 (fun v8 v9 wx => ∃ gA gB, v8 = .slice (some ⟨gA, 0, none⟩) l.length l.length ∧ v9 = .slice (some ⟨gB, 0, none⟩) l.length l.length ∧ Hid (OwnG wx 3 w.heap.size gA l.length l.length (List.replicate l.length 0)) ∧ Hid (OwnG wx 3 w.heap.size gB l.length l.length (List.replicate l.length 0)) ∧ gA ≠ gB ∧ Ext w wx)
  case first =>
    go_region_held3 (fun w' => True) (first | assumption | trivial | go_keep)
      (first
        | (refine upon_make w.heap.size 3 i0 (.int .i64 0) 1 Try.underlying26 Hi.out.1 Hi.out.2.1 Hi.out.2.2.1 (by rw [Hi.out.2.2.2]; omega) (by unfold maxLen; omega) (by first | exact hXm.size | exact (ext_drew _).size) ?_
           intro wm hom hgrow
           first
             | (have hXn : Ext wo1 wm := (Below.refl _ _).grown hgrow (Nat.le_refl _) (by simp)
                have hXk := hXm.trans' hXn)
             | (have hXm : Ext w wm := (ext_drew _).trans' ((Below.refl _ _).grown hgrow (Nat.le_refl _) (by simp))
                obtain ⟨wo1, hwo1⟩ : ∃ wo1 : World, wo1 = wm := ⟨_, rfl⟩
                subst hwo1
                have hom1 := hom
                clear hom)))
    · have hF := (made_own hom1).ext hXn
      have hF2 := made_own hom
      have hF3 := (made_own hom1).slot
      go_wp2_with fail
      go_meet
      case rel => exact ⟨_, _, rfl, rfl, Lib.hid hF, Lib.hid hF2, by simp at hF3 ⊢; omega, hXk⟩
    · have hF := (made_own hom1).ext hXn
      have hF2 := made_own hom
      have hF3 := (made_own hom1).slot
      go_wp2_with fail
      go_meet
      case rel => exact ⟨_, _, rfl, rfl, Lib.hid hF2, Lib.hid hF, by simp at hF3 ⊢; omega, hXk⟩
  case rest =>
    obtain ⟨gA, gB, rfl, rfl, HA0, HB0, hAB, hX0⟩ := hcut
    have hgA := HA0.out.slot
    have hgB := HB0.out.slot
    have hgAB : w.heap.size ≤ gA ∧ w.heap.size ≤ gB := ⟨hgA.2.2, hgB.2.2⟩
    have HA1 : Hid (OwnG wc 3 w.heap.size gA l.length l.length (reachI (dC l wd) (oF O) m l.length ⟨List.replicate l.length 0, List.replicate l.length 0, -1⟩ 0).at_) := HA0
    have HB1 : Hid (OwnG wc 3 w.heap.size gB l.length l.length (reachI (dC l wd) (oF O) m l.length ⟨List.replicate l.length 0, List.replicate l.length 0, -1⟩ 0).by_) := HB0
    have HSu : Hid (∀ r, reachI (dC l wd) (oF O) m l.length ⟨List.replicate l.length 0, List.replicate l.length 0, -1⟩ (r + 1) = partI (dC l wd) (oF O) m l.length (reachI (dC l wd) (oF O) m l.length ⟨List.replicate l.length 0, List.replicate l.length 0, -1⟩ r) l.length 0) := Lib.hid (fun r => rfl)
    clear hgA hgB HA0 HB0 Hbs
    obtain ⟨RI, hRI⟩ : ∃ RI : Nat → IS, RI = reachI (dC l wd) (oF O) m l.length ⟨List.replicate l.length 0, List.replicate l.length 0, -1⟩ := ⟨_, rfl⟩
    rw [← hRI] at HA1 HB1 Hz HRel Hrc HSu
    clear hRI
    go_wp2_with fail
    go_loopw [10, 11] (fun v10 v11 wr => ∃ r : Nat, r ≤ l.length ∧ v11 = .int .i64 r ∧ v10 = .int .i64 (RI r).last ∧ Ext w wr ∧ Hid (OwnG wr 3 w.heap.size gA l.length l.length (RI r).at_) ∧ Hid (OwnG wr 3 w.heap.size gB l.length l.length (RI r).by_)) (fun _ v11 _ => l.length - (intOf v11).toNat)
    case atStart => exact ⟨0, Nat.zero_le _, rfl, by rw [Hz.out], hX0, HA1, HB1⟩
    case round =>
      obtain ⟨r, hr, rfl, rfl, hX, HA, HB⟩ := hrel
      clear HA1 HB1
      by_cases hlr : r < l.length
      case pos =>
        have HSr := Lib.hid (HSu.out r)
        have Hpb : Hid (∀ i k, (i < l.length ∨ (i = l.length ∧ k = 0)) → k ≤ l.length → Bnd l.length 504300 (partI (dC l wd) (oF O) m l.length (RI r) i k)) := Lib.hid (fun i k hi hk => ((Hrc.out r).part (fun i k q hi hk hq => (HK.out i k q hi hk hq).1) hn5.2 hi hk).mono (by omega))
        have Hp0 : Hid ((partI (dC l wd) (oF O) m l.length (RI r) 0 0).last = -1) := Lib.hid rfl
        have HA2 : Hid (OwnG wr 3 w.heap.size gA l.length l.length (partI (dC l wd) (oF O) m l.length (RI r) 0 0).at_) := HA
        have HB2 : Hid (OwnG wr 3 w.heap.size gB l.length l.length (partI (dC l wd) (oF O) m l.length (RI r) 0 0).by_) := HB
        have Hrow : Hid (∀ i, partI (dC l wd) (oF O) m l.length (RI r) i l.length = partI (dC l wd) (oF O) m l.length (RI r) (i + 1) 0) := Lib.hid (fun i => partI_row _ _ _ _ _ i)
        have Hsuc : Hid (∀ i k, partI (dC l wd) (oF O) m l.length (RI r) i (k + 1) = relaxI (dC l wd) (oF O) m (partI (dC l wd) (oF O) m l.length (RI r) i k) (i, k)) := Lib.hid (fun i k => partI_succ _ _ _ _ _ i k)
        clear HA HB
        generalize RI r = stR at *
        obtain ⟨PI, hPI⟩ : ∃ PI : Nat → Nat → IS, PI = partI (dC l wd) (oF O) m l.length stR := ⟨_, rfl⟩
        rw [← hPI] at HA2 HB2 Hrow Hsuc Hpb Hp0 HSr
        clear hPI
        go_wp2_with fail
        go_loopw [10, 12] (fun v10 v12 wr => ∃ i : Nat, i ≤ l.length ∧ v12 = .int .i64 i ∧ v10 = .int .i64 (PI i 0).last ∧ Ext w wr ∧ Hid (OwnG wr 3 w.heap.size gA l.length l.length (PI i 0).at_) ∧ Hid (OwnG wr 3 w.heap.size gB l.length l.length (PI i 0).by_)) (fun _ v12 _ => l.length - (intOf v12).toNat)
        case atStart => exact ⟨0, Nat.zero_le _, rfl, by rw [Hp0.out], hX, HA2, HB2⟩
        case round =>
          obtain ⟨i, hi, rfl, rfl, hX, HA, HB⟩ := hrel
          clear HA2 HB2
          by_cases hli : i < l.length
          case neg =>
            obtain rfl : i = l.length := by omega
            rw [← HSr.out] at HA HB ⊢
            go_wp2_with fail
            go_roundw
            case rel => exact ⟨r + 1, by omega, by go_num, rfl, hX, HA, HB⟩
            case measure => simp [intOf]; omega
          go_wp2_with fail
          go_loopw [10, 13] (fun v10 v13 wr => ∃ k : Nat, k ≤ l.length ∧ v13 = .int .i64 k ∧ v10 = .int .i64 (PI i k).last ∧ Ext w wr ∧ Hid (OwnG wr 3 w.heap.size gA l.length l.length (PI i k).at_) ∧ Hid (OwnG wr 3 w.heap.size gB l.length l.length (PI i k).by_)) (fun _ v13 _ => l.length - (intOf v13).toNat)
          case atStart => exact ⟨0, Nat.zero_le _, rfl, rfl, hX, HA, HB⟩
          case round =>
            obtain ⟨k, hk, rfl, rfl, hX, HA, HB⟩ := hrel
            by_cases hlk : k < l.length
            case neg =>
              obtain rfl : k = l.length := by omega
              rw [Hrow.out i] at HA HB ⊢
              go_wp2_with fail
              go_roundw
              case rel => exact ⟨i + 1, by omega, by go_num, rfl, hX, HA, HB⟩
              case measure => simp [intOf]; omega
            have hPb := Hpb.out i k (.inl hli) hk
            have bi := hPb.bd i
            have bk := hPb.bd k
            have HLa := Lib.hid hPb.la
            have HLb := Lib.hid hPb.lb
            have Hs1 := Lib.hid (Hsuc.out i k)
            have Hgn := Lib.hid (fun h => relaxI_no (st := PI i k) (goI_none (m := m) (at_ := (PI i k).at_) (d := dC l wd) (O := oF O) (i := i) (k := k) h))
            have Hgs := Lib.hid (fun h => relaxI_no (st := PI i k) (goI_same (m := m) (at_ := (PI i k).at_) (d := dC l wd) (O := oF O) (i := i) (k := k) h))
            have Hgo := Lib.hid (fun q h h2 => relaxI_no (st := PI i k) (goI_no (m := m) (at_ := (PI i k).at_) (d := dC l wd) (O := oF O) (i := i) (k := k) (q := q) h h2))
            have Hga := Lib.hid (fun q h h1 h2 => relaxI_at (m := m) (st := PI i k) (d := dC l wd) (O := oF O) (i := i) (k := k) (q := q) h h1 h2)
            have C := Lib.hid (C94.out i k hli hlk wr hX)
            have HKq := Lib.hid (fun q hq => HK.out i k q hli hlk hq)
            clear hPb
            generalize relaxI (dC l wd) (oF O) m (PI i k) (i, k) = PX at *
            generalize PI i k = P at *
            generalize chg (dC l wd) (oF O) i k m = o at *
            go_wp2_with fail
            refine C.out.mono ?_
            rintro e w2 ⟨rfl, hX2⟩
            have hX3 := hX.trans' hX2
            have HA3 := Lib.hid (HA.out.ext hX2)
            have HB3 := Lib.hid (HB.out.ext hX2)
            have ci := HA3.out.cell (i := i) (by rw [HLa.out]; exact hli)
            have ck := HA3.out.cell (i := k) (by rw [HLa.out]; exact hlk)
            have zA := HA3.out.slot
            rw [gi_def] at ci ck
            generalize hai : gi P.at_ i = ai at *
            generalize hak : gi P.at_ k = ak at *
            have Hak := Lib.hid hak
            have Hai := Lib.hid hai
            clear hai hak C HA HB
            by_cases hik : i = k
            case pos =>
              have hd : ((i : Int) != (k : Int)) = false := by simp; omega
              have HR := Lib.hid (Hgs.out hik)
              clear Hgn Hgs Hgo Hga hik
              go_wp2_with fail
              refine wp_region_ext (by kernel_rfl) (by kernel_rfl) ?_
              repeat (go_big_quiet_step (fail))
              refine wpQuiet_nil ?_
              intro w4 hX4
              go_wp2_with fail
              go_roundw
              case rel => exact ⟨k + 1, by omega, by go_num, by rw [Hs1.out, HR.out], hX3.trans' hX4, by rw [Hs1.out, HR.out]; exact Lib.hid (HA3.out.ext hX4), by rw [Hs1.out, HR.out]; exact Lib.hid (HB3.out.ext hX4)⟩
              case measure => simp [intOf]; omega
            have hd : ((i : Int) != (k : Int)) = true := by simp; omega
            cases o with
            | none =>
              have HR := Lib.hid (Hgn.out rfl)
              have e1 : chgB none = -1 := rfl
              have e2 : chgM none = 0 := rfl
              rw [e1, e2]
              clear Hgn Hgs Hgo Hga e1 e2
              go_wp2_with fail
              refine wp_region_ext (by kernel_rfl) (by kernel_rfl) ?_
              repeat (go_big_quiet_step (fail))
              refine wpQuiet_nil ?_
              intro w4 hX4
              go_wp2_with fail
              go_roundw
              case rel => exact ⟨k + 1, by omega, by go_num, by rw [Hs1.out, HR.out], hX3.trans' hX4, by rw [Hs1.out, HR.out]; exact Lib.hid (HA3.out.ext hX4), by rw [Hs1.out, HR.out]; exact Lib.hid (HB3.out.ext hX4)⟩
              case measure => simp [intOf]; omega
            | some q =>
              have hq := HKq.out q rfl
              have Hgo' := Lib.hid (Hgo.out q rfl)
              have Hga' := Lib.hid (Hga.out q rfl hik)
              obtain ⟨q1, q2⟩ := q
              have e1 : chgB (some (q1, q2)) = (q1 : Int) := rfl
              have e2 : chgM (some (q1, q2)) = q2 := rfl
              rw [e1, e2]
              simp only at hq Hgo' Hga'
              have hge : decide (0 ≤ (q1 : Int)) = true := decide_eq_true (by omega)
              clear Hgn Hgs Hgo Hga e1 e2 HKq
              by_cases hlt : ai + q2 < ak
              case neg =>
                have hd2 : decide (ai + q2 < ak) = false := decide_eq_false hlt
                have HR := Lib.hid (Hgo'.out (by omega))
                clear hlt Hgo' Hga'
                go_wp2_with fail
                refine wp_region_ext (by kernel_rfl) (by kernel_rfl) ?_
                repeat (go_big_quiet_step (fail))
                refine wpQuiet_nil ?_
                intro w4 hX4
                go_wp2_with fail
                go_roundw
                case rel => exact ⟨k + 1, by omega, by go_num, by rw [Hs1.out, HR.out], hX3.trans' hX4, by rw [Hs1.out, HR.out]; exact Lib.hid (HA3.out.ext hX4), by rw [Hs1.out, HR.out]; exact Lib.hid (HB3.out.ext hX4)⟩
                case measure => simp [intOf]; omega
              have hd2 : decide (ai + q2 < ak) = true := decide_eq_true hlt
              have HR := Lib.hid (Hga'.out (by omega))
              clear hlt Hgo' Hga'
              go_wp2_with fail
              refine wp_region_ext (by kernel_rfl) (by kernel_rfl) ?_
              repeat (go_big_quiet_step (fail))
              refine wpQuiet_nil ?_
              intro w4 hX4
              have HA4 := Lib.hid (HA3.out.ext hX4)
              have HB4 := Lib.hid (HB3.out.ext hX4)
              have ci4 := HA4.out.cell (i := i) (by rw [HLa.out]; exact hli)
              have ck4 := HA4.out.cell (i := k) (by rw [HLa.out]; exact hlk)
              rw [gi_def, Hai.out] at ci4
              rw [gi_def, Hak.out] at ck4
              have fA := HA4.out.froz k
              have cb := HB4.out.cell (i := k) (by rw [HLb.out]; exact hlk)
              have fB := HB4.out.froz k
              have zA4 := HA4.out.slot
              have zB4 := HB4.out.slot
              rw [gi_def] at cb
              generalize gi P.by_ k = bk0 at *
              have HA5 := Lib.hid ((HA4.out.store k (ai + q2)).other (g' := gB) (fun e => hAB e.symm) k (.int .i64 (i : Int)))
              have HB5 := Lib.hid ((HB4.out.other (g' := gA) hAB k (.int .i64 (ai + q2))).store k (i : Int))
              have hX5 := ((hX3.trans' hX4).setCell (p := ⟨gA, k, none⟩) hgAB.1 (.int .i64 (ai + q2))).setCell (p := ⟨gB, k, none⟩) hgAB.2 (.int .i64 (i : Int))
              clear ci ck zA
              go_wp2_with fail
              go_roundw
              case rel => exact ⟨k + 1, by omega, by go_num, by rw [Hs1.out, HR.out], hX5, by rw [Hs1.out, HR.out]; exact HA5, by rw [Hs1.out, HR.out]; exact HB5⟩
              case measure => simp [intOf]; omega
      obtain rfl : r = l.length := by omega
      have hRel : RelI (dC l wd) (oF O) m l.length (RI l.length) (impS (dC l wd) farI (oF O) m l.length) := HRel.out
      have hO : ∀ k, k < m → oF O k < l.length := fun k hk => (oF_lt HOw.out (by rw [HOl.out]; exact hk)).1
      have HLb := Lib.hid (Hrc.out l.length).lb
      have HImpN : Hid ((RI l.length).last < 0 → ∃ p, FitsTo (dC l wd) (oF O) m l.length p) := Lib.hid (fun h => imp_none (far := farI) hn5.1 (by unfold farI; omega) hO (by rw [← hRel.last]; exact h))
      have HImp := Lib.hid (fun h => imp_lists hn5.1 hO hRel h)
      have HGx := Lib.hid (HG.out.ext hX)
      clear hRel hO hlr
      generalize RI l.length = Z at *
      by_cases hla : Z.last < 0
      case pos =>
        have hd : decide (Z.last < 0) = true := decide_eq_true hla
        have HR : Hid (RetImp l wd ht B g m cap O w (.returned (.bool false)) wr) := Lib.hid ⟨false, O, rfl, HGx.out, fun w0 h _ => h.trans' hX, fun _ => ⟨rfl, HImpN.out hla⟩, fun h => by simp at h⟩
        clear hla HImp HImpN
        generalize Z.last = zl at *
        go_wp2_with fail
        go_ret
        exact HR.out
      obtain ⟨v, c', pix, len, hv, hlast, hbl, hb0, hby, go⟩ := HImp.out (by omega)
      have hd : decide ((v : Int) < 0) = false := decide_eq_false (by omega)
      have Hbl := Lib.hid hbl
      have Hb0 := Lib.hid hb0
      have Hby := Lib.hid hby
      have Hgo := Lib.hid go
      have hlen := go.len1
      have Hbk0 : Hid (backI Z.by_ v 0 = v) := Lib.hid rfl
      have Hbks : Hid (∀ y, backI Z.by_ v (y + 1) = (gi Z.by_ (backI Z.by_ v y)).toNat) := Lib.hid (fun y => rfl)
      have Hbn : Hid (∀ u, u < l.length → 0 ≤ gi Z.by_ u ∧ gi Z.by_ u < l.length) := Lib.hid (fun u hu => by
        have := (HRel.out).nat u hu
        exact this)
      rw [hlast]
      clear hla HImp HImpN hbl hb0 hby go hlast HA
      generalize Z.by_ = BY at *
      go_wp2_with fail
      obtain ⟨wv, rfl⟩ : ∃ wv : World, wv = wr := ⟨_, rfl⟩
      go_loopw [10, 16] (fun v10 v16 wr => ∃ y : Nat, y ≤ l.length ∧ v16 = .int .i64 y ∧ v10 = .int .i64 ((backI BY v y : Nat) : Int) ∧ wr = wv) (fun _ v16 _ => l.length - (intOf v16).toNat)
      case atStart => exact ⟨0, Nat.zero_le _, rfl, by rw [Hbk0.out], rfl⟩
      case round =>
        obtain ⟨y, hy, rfl, rfl, rfl⟩ := hrel
        by_cases hly : y < l.length
        case pos =>
          have hbu := Hbl.out y hy
          have Hs1 := Lib.hid (Hbks.out y)
          have hnu := Hbn.out _ hbu
          generalize backI BY v y = b1 at *
          have cb := HB.out.cell (i := b1) (by rw [HLb.out]; exact hbu)
          have zB := HB.out.slot
          rw [gi_def] at cb
          generalize gi BY b1 = u at *
          obtain ⟨u', rfl⟩ := Int.eq_ofNat_of_zero_le hnu.1
          rw [Int.toNat_natCast] at Hs1
          go_wp2_with fail
          go_roundw
          case rel => exact ⟨y + 1, by omega, by go_num, by rw [Hs1.out], trivial⟩
          case measure => simp [intOf]; omega
        obtain rfl : y = l.length := by omega
        rw [Hb0.out]
        have hlt0 := Hgo.out.lt 0 (by omega)
        clear hly Hbl Hbk0 Hbks Hb0 Hbn
        obtain ⟨wq, rfl⟩ : ∃ wq : World, wq = wr := ⟨_, rfl⟩
        go_wp2_with fail
        go_loopw [17, 18, 19] (fun v17 v18 v19 wr => ∃ y : Nat, y ≤ len ∧ v19 = .int .i64 ((c' y : Nat) : Int) ∧ Ext wq wr ∧ Hid (wr.ownsRow wq.heap.size 3 1 v17 y ((numsTo pix y).map (.int .i64))) ∧ Hid (wr.ownsRow wq.heap.size 3 1 v18 y ((numsTo c' y).map (.int .i64))) ∧ Hid (∀ b, v17.ownBlock = some b → v18.ownBlock ≠ some b)) (fun v17 _ _ _ => len - lenV v17)
        case atStart => exact ⟨0, Nat.zero_le _, rfl, Ext.rfl' _, Lib.hid (World.ownsRow_nil _ _ _ _), Lib.hid (World.ownsRow_nil _ _ _ _), Lib.hid (fun b h => by simp [Value.ownBlock] at h)⟩
        case round =>
          obtain ⟨y, hy, rfl, hX2, H17, H18, Hsep⟩ := hrel
          have hXX := hX.trans' hX2
          obtain ⟨a7, k7, rfl⟩ := slice_form H17.out
          obtain ⟨a8, k8, rfl⟩ := slice_form H18.out
          by_cases hyl : y = len
          case pos =>
            subst hyl
            have hd1 : ((y : Int) == 0) = false := by rw [beq_eq_false_iff_ne]; omega
            have hbk := Hgo.out.back
            have hd2 : (((c' y : Nat) : Int) != ((c' 0 : Nat) : Int)) = false := by rw [hbk]; simp
            have HG0 : Hid (OwnG wr 3 B g m cap (passL O pix c' 0)) := Lib.hid (HG.out.ext hXX)
            have hgw := HG.out.slot
            have Hpx : Hid (∀ t, t < y → pix t < m ∧ c' t < l.length) := Lib.hid (fun t ht => ⟨Hgo.out.pix_ t ht, Hgo.out.lt t (by omega)⟩)
            have HBt : Hid (Better l wd ht O (passL O pix c' y)) := Lib.hid (pass_better HOw.out (by rw [HOl.out]; exact Hgo.out))
            clear hbk
            generalize c' y = cy at *
            go_wp2_with fail
            go_loopw [22] (fun v22 wr => ∃ z : Nat, z ≤ y ∧ v22 = .int .i64 z ∧ (∀ w0, Ext w0 w → w0.heap.size ≤ g → Ext w0 wr) ∧ Hid (OwnG wr 3 B g m cap (passL O pix c' z)) ∧ Hid (wr.ownsRow wq.heap.size 3 1 (.slice a7 y k7) y ((numsTo pix y).map (.int .i64))) ∧ Hid (wr.ownsRow wq.heap.size 3 1 (.slice a8 y k8) y ((numsTo c' y).map (.int .i64)))) (fun v22 _ => y - (intOf v22).toNat)
            case atStart => exact ⟨0, Nat.zero_le _, rfl, fun w0 h _ => h.trans' hXX, HG0, H17, H18⟩
            case round =>
              obtain ⟨z, hz, rfl, hEx, HGz, H17, H18⟩ := hrel
              by_cases hlz : z < y
              case neg =>
                obtain rfl : z = y := by omega
                have HR : Hid (RetImp l wd ht B g m cap O w (.returned (.bool true)) wr) := Lib.hid ⟨true, _, rfl, HGz.out, hEx, fun h => by simp at h, fun _ => HBt.out⟩
                go_wp2_with fail
                go_ret
                exact HR.out
              obtain ⟨hp1, hp2⟩ := Hpx.out z hlz
              obtain ⟨a9, c9, e9, hI7⟩ := ints_of_row H17.out
              have ea : a7 = a9 := by injection e9
              subst ea
              obtain ⟨b7, o7, e7, hb7, hc7⟩ := hI7 z (by rw [numsTo_length]; exact hlz)
              obtain ⟨a10, c10, e10, hI8⟩ := ints_of_row H18.out
              have ea2 : a8 = a10 := by injection e10
              subst ea2
              obtain ⟨b8, o8, e8, hb8, hc8⟩ := hI8 z (by rw [numsTo_length]; exact hlz)
              subst e7 e8
              rw [gi_def, numsTo_at hlz] at hc7 hc8
              have hpl : pix z < (passL O pix c' z).length := by rw [passL_length, HOl.out]; exact hp1
              have cG := HGz.out.cell hpl
              have fG := HGz.out.froz (pix z)
              have zG := HGz.out.slot
              rw [gi_def] at cG
              have Hst := Lib.hid (fun W (h : OwnG W 3 B g m cap (passL O pix c' z)) => (show OwnG (W.setCell ⟨g, pix z, none⟩ (.int .i64 ((c' z : Nat) : Int))) 3 B g m cap (passL O pix c' (z + 1)) from h.store (pix z) _))
              have hgq : g < wq.heap.size := Nat.lt_of_lt_of_le hgw.1 hX.size
              have hne7 := row_far H17.out hgq
              have hne8 := row_far H18.out hgq
              have Hcl := Lib.hid (fun W (h : OwnG W 3 B g m cap (passL O pix c' z)) => And.intro (h.cell hpl) (And.intro (h.froz (pix z)) h.slot))
              clear e9 e10 hI7 hI8 hpl
              generalize gi (passL O pix c' z) (pix z) = ov at *
              generalize passL O pix c' z = Lz at *
              generalize pix z = pz at *
              generalize c' z = cz at *
              go_wp2_with fail
              refine wp_region_ext_tail 10 (by kernel_rfl) (by kernel_rfl) ?_
              simp only [List.take_succ_cons, List.take_zero, List.drop_succ_cons, List.drop_zero]
              repeat (go_big_quiet_step (fail))
              refine wpQuiet_nil ?_
              intro w8 hX8
              have HG8 := Lib.hid (HGz.out.ext hX8)
              obtain ⟨cG8, fG8, zG8⟩ := Hcl.out w8 HG8.out
              have HG9 := Lib.hid (Hst.out w8 HG8.out)
              have H179 := Lib.hid (row_set_other (row_ext H17.out hX8) hne7 pz (.int .i64 (cz : Int)))
              have H189 := Lib.hid (row_set_other (row_ext H18.out hX8) hne8 pz (.int .i64 (cz : Int)))
              have hEx9 : ∀ w0, Ext w0 w → w0.heap.size ≤ g → Ext w0 (w8.setCell ⟨g, pz, none⟩ (.int .i64 (cz : Int))) := fun w0 h h2 => ((hEx w0 h h2).trans' hX8).setCell (p := ⟨g, pz, none⟩) h2 _
              have HEx9 := Lib.hid hEx9
              clear cG fG zG hc7 hc8 hEx9
              go_wp2_with fail
              go_roundw
              case rel => exact ⟨z + 1, by omega, by go_num, HEx9.out, HG9, H179, H189⟩
              case measure => simp [intOf]; omega
          by_cases hy0 : y = 0
          case pos =>
            have hd1 : ((y : Int) == 0) = true := by rw [beq_iff_eq]; omega
            clear hy0
            have hcy := Hgo.out.lt y (by omega)
            have hcy1 := Hgo.out.lt (y + 1) (by omega)
            obtain ⟨mu, hmu⟩ := Hgo.out.chg_ y (by omega)
            have C : Hid (∀ W, Ext w W → Calls Try.prog 94 #[.slice a l.length c, .int .i64 wd, .slice (some ⟨g, 0, none⟩) m cap, .int .i64 ((c' (y + 1) : Nat) : Int), .int .i64 ((c' y : Nat) : Int)] W fun e w' => e = .returned (.tuple #[.int .i64 ((pix y : Nat) : Int), .int .i64 mu]) ∧ Ext W w') := Lib.hid (fun W hW => by
              have := C94.out _ _ hcy1 hcy W hW
              rw [hmu] at this
              exact this)
            have Hps := Lib.hid (numsTo_succ pix y)
            have Hcs := Lib.hid (numsTo_succ c' y)
            have HByy := Lib.hid (Hby.out y (by omega))
            have HBc : Hid (∀ W, Ext wq W → W.cell? ⟨gB, c' y, none⟩ = some (.int .i64 ((c' (y + 1) : Nat) : Int)) ∧ gB < W.heap.size) := Lib.hid (fun W hW => by
              have h1 := HB.out.ext hW
              have h2 := h1.cell (i := c' y) (by rw [HLb.out]; exact hcy)
              rw [gi_def, HByy.out] at h2
              exact ⟨h2, h1.slot.1⟩)
            obtain ⟨cb, zb⟩ := HBc.out wr hX2
            clear hmu HByy
            generalize hc1 : c' (y + 1) = c1 at *
            have Hc1 := Lib.hid hc1
            clear hc1
            generalize c' y = c0 at *
            generalize pix y = p0 at *
            go_wp2_with fail
            refine (C.out _ hXX).mono ?_
            rintro e w3 ⟨rfl, hX3⟩
            have hXq3 := hX2.trans' hX3
            have H173 := Lib.hid (row_ext H17.out hX3)
            have H183 := Lib.hid (row_ext H18.out hX3)
            clear cb zb
            go_wp2_with (first | (at_builtin; refine wpList_push1 (v := .slice a7 y k7) (x := (p0 : Int)) rfl (.tmp 123) (.tmp 125) 26 rfl Hi.out Try.underlying26 rfl rfl H173.out (by omega) hXq3.size ?_; intro v4 w4 h4 hg4 hat4; have hXq4 := ext_append hXq3 H173.out (Nat.le_refl _) hg4; have H184 := Lib.hid (row_apart (row_ext H183.out (ext_alloc _ (.cells #[.int .i64 (p0 : Int)] 3))) hg4 (fun b h h2 => Hsep.out b h2 h)); rw [← Hps.out] at h4; have H174 := Lib.hid h4; have Hsep4 : Hid (∀ b, v4.ownBlock = some b → (Value.slice a8 y k8).ownBlock ≠ some b) := Lib.hid (fun b h h2 => (by rcases hat4 with e | e; exact Hsep.out b (by rw [← e]; exact h) h2; have h3 := (row_blk H183.out h2).1; rw [h] at e; injection e with e; simp at e; omega)); clear h4 hg4 hat4) | (at_builtin; refine wpList_push1 (v := .slice a8 y k8) (x := (c0 : Int)) rfl (.tmp 127) (.tmp 129) 26 rfl Hi.out Try.underlying26 rfl rfl H184.out (by omega) hXq4.size ?_; intro v5 w5 h5 hg5 hat5; have hXq5 := ext_append hXq4 H184.out (Nat.le_refl _) hg5; have H175 := Lib.hid (row_apart (row_ext H174.out (ext_alloc _ (.cells #[.int .i64 (c0 : Int)] 3))) hg5 Hsep4.out); rw [← Hcs.out] at h5; have H185 := Lib.hid h5; have Hsep5 : Hid (∀ b, v4.ownBlock = some b → v5.ownBlock ≠ some b) := Lib.hid (fun b h h2 => (by rcases hat5 with e | e; exact Hsep4.out b h (by rw [← e]; exact h2); have h3 := (row_blk H174.out h).1; rw [h2] at e; injection e with e; simp at e; omega)); obtain ⟨cb, zb⟩ := HBc.out w5 hXq5; clear h5 hg5 hat5))
            obtain ⟨a4, k4, e4⟩ := slice_form H175.out
            subst e4
            go_roundw
            case rel => exact ⟨y + 1, by omega, by rw [Hc1.out], hXq5, H175, H185, Hsep5⟩
            case measure => simp [lenV]; omega
          have hd1 : ((y : Int) == 0) = false := by rw [beq_eq_false_iff_ne]; omega
          have hd2 : (((c' y : Nat) : Int) != ((c' 0 : Nat) : Int)) = true := by
            have := Hgo.out.new y (by omega) (by omega)
            simp; omega
          clear hy0
          have hcy := Hgo.out.lt y (by omega)
          have hcy1 := Hgo.out.lt (y + 1) (by omega)
          obtain ⟨mu, hmu⟩ := Hgo.out.chg_ y (by omega)
          have C : Hid (∀ W, Ext w W → Calls Try.prog 94 #[.slice a l.length c, .int .i64 wd, .slice (some ⟨g, 0, none⟩) m cap, .int .i64 ((c' (y + 1) : Nat) : Int), .int .i64 ((c' y : Nat) : Int)] W fun e w' => e = .returned (.tuple #[.int .i64 ((pix y : Nat) : Int), .int .i64 mu]) ∧ Ext W w') := Lib.hid (fun W hW => by
            have := C94.out _ _ hcy1 hcy W hW
            rw [hmu] at this
            exact this)
          have Hps := Lib.hid (numsTo_succ pix y)
          have Hcs := Lib.hid (numsTo_succ c' y)
          have HByy := Lib.hid (Hby.out y (by omega))
          have HBc : Hid (∀ W, Ext wq W → W.cell? ⟨gB, c' y, none⟩ = some (.int .i64 ((c' (y + 1) : Nat) : Int)) ∧ gB < W.heap.size) := Lib.hid (fun W hW => by
            have h1 := HB.out.ext hW
            have h2 := h1.cell (i := c' y) (by rw [HLb.out]; exact hcy)
            rw [gi_def, HByy.out] at h2
            exact ⟨h2, h1.slot.1⟩)
          obtain ⟨cb, zb⟩ := HBc.out wr hX2
          clear hmu HByy
          generalize hc1 : c' (y + 1) = c1 at *
          have Hc1 := Lib.hid hc1
          clear hc1
          generalize c' y = c0 at *
          generalize pix y = p0 at *
          go_wp2_with fail
          refine (C.out _ hXX).mono ?_
          rintro e w3 ⟨rfl, hX3⟩
          have hXq3 := hX2.trans' hX3
          have H173 := Lib.hid (row_ext H17.out hX3)
          have H183 := Lib.hid (row_ext H18.out hX3)
          clear cb zb
          go_wp2_with (first | (at_builtin; refine wpList_push1 (v := .slice a7 y k7) (x := (p0 : Int)) rfl (.tmp 123) (.tmp 125) 26 rfl Hi.out Try.underlying26 rfl rfl H173.out (by omega) hXq3.size ?_; intro v4 w4 h4 hg4 hat4; have hXq4 := ext_append hXq3 H173.out (Nat.le_refl _) hg4; have H184 := Lib.hid (row_apart (row_ext H183.out (ext_alloc _ (.cells #[.int .i64 (p0 : Int)] 3))) hg4 (fun b h h2 => Hsep.out b h2 h)); rw [← Hps.out] at h4; have H174 := Lib.hid h4; have Hsep4 : Hid (∀ b, v4.ownBlock = some b → (Value.slice a8 y k8).ownBlock ≠ some b) := Lib.hid (fun b h h2 => (by rcases hat4 with e | e; exact Hsep.out b (by rw [← e]; exact h) h2; have h3 := (row_blk H183.out h2).1; rw [h] at e; injection e with e; simp at e; omega)); clear h4 hg4 hat4) | (at_builtin; refine wpList_push1 (v := .slice a8 y k8) (x := (c0 : Int)) rfl (.tmp 127) (.tmp 129) 26 rfl Hi.out Try.underlying26 rfl rfl H184.out (by omega) hXq4.size ?_; intro v5 w5 h5 hg5 hat5; have hXq5 := ext_append hXq4 H184.out (Nat.le_refl _) hg5; have H175 := Lib.hid (row_apart (row_ext H174.out (ext_alloc _ (.cells #[.int .i64 (c0 : Int)] 3))) hg5 Hsep4.out); rw [← Hcs.out] at h5; have H185 := Lib.hid h5; have Hsep5 : Hid (∀ b, v4.ownBlock = some b → v5.ownBlock ≠ some b) := Lib.hid (fun b h h2 => (by rcases hat5 with e | e; exact Hsep4.out b h (by rw [← e]; exact h2); have h3 := (row_blk H174.out h).1; rw [h2] at e; injection e with e; simp at e; omega)); obtain ⟨cb, zb⟩ := HBc.out w5 hXq5; clear h5 hg5 hat5))
          obtain ⟨a4, k4, e4⟩ := slice_form H175.out
          subst e4
          go_roundw
          case rel => exact ⟨y + 1, by omega, by rw [Hc1.out], hXq5, H175, H185, Hsep5⟩
          case measure => simp [lenV]; omega
end Go.Proofs.Ytodlbgncdggimaa
