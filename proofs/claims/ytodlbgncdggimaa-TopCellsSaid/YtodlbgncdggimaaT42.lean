/- Contracts of cells: share. -/
import Derived.Test.YtodlbgncdggimaaG1
namespace Go.Proofs.Ytodlbgncdggimaa
open Go.RowKit
attribute [local go_sem] GW.cell Oper.semAt_some wide_depth
theorem eq_nil26 (a : Addr) (l c : Nat) (w : World) : (binOp .eql 26 (.slice (some a) l c) (.slice none 0 0)).run Try.prog w = .ok (.bool false) w := by
  simp only [binOp]
  simp [run_equal_slice_nil w 26 3 (some a) l c Try.underlying26]
attribute [local go_sem] eq_nil26
theorem ints_one {l : List Int} : ∀ u ∈ l.map (Value.int .i64), u.oneCell' = true := fun u hu => by
  obtain ⟨x, _, rfl⟩ := List.mem_map.1 hu; rfl
set_option maxRecDepth 20000 in
set_option maxHeartbeats 4000000 in
theorem f92_c (b off n c : Nat) (l : List Int) (w : World) (hl : Ints w (some ⟨b, off, none⟩) l) (hn : l.length = n) (hn0 : 0 < n) (hlen : n ≤ 1000000) :
    Calls Try.prog 92 #[.slice (some ⟨b, off, none⟩) n c] w fun e w' => ∃ g cap, e = .returned (.slice (some ⟨g, 0, none⟩) n cap) ∧ OwnG w' 3 w.heap.size g n cap l ∧ Ext w w' := by
  subst hn
  obtain ⟨i0, hi0⟩ := info_p info3'
  have Hi := Lib.hid hi0
  have Hr := Lib.hid (reads_ints (hl.ext (ext_alloc w (.cells #[] 3))))
  have Hrow := Lib.hid (row_empty w 3 1)
  clear hi0
  go_enter Try.func92, Try.ntmps92
  go_wp2_with (at_builtin; refine wpList_append_any _ rfl (.tmp 5) (.tmp 6) 26 rfl w.heap.size 3 i0 (.int .i64 0) 1 8 Try.underlying26 Hi.out.1 Hi.out.2.1 Hi.out.2.2.1 Hi.out.2.2.2 rfl (by omega) (.slice (some ⟨w.heap.size, 0, none⟩) 0 0) 0 [] rfl Hrow.out _ (some ⟨b, off, none⟩) l.length c (l.map (.int .i64)) rfl Hr.out ints_one (by unfold maxLen; omega) (by omega) (by simp) ?_; intro v1 w1 hown hgrow hat; have hX1 := ext_grow (ext_alloc _ _) Hrow.out (Nat.le_refl _) hgrow; rw [Nat.zero_add, List.nil_append] at hown; obtain ⟨g8, c8, rfl, hg8, hg9⟩ := ownsRow_form hown hn0; have Hown := Lib.hid hown; clear hown hgrow hat)
  go_ret
  exact ⟨_, _, rfl, Hown.out, hX1⟩
set_option maxHeartbeats 1000000 in
theorem f93_c (k wd : Nat) (b : Nat) (w : World) (hw1 : 1 ≤ wd) (hw2 : wd ≤ 12) (hk : k < 144) (hc : w.cell? ⟨b, 0, none⟩ = some (.int .i64 (wd : Int))) (hb : b < w.heap.size) :
    Calls Try.prog 93 #[.int .i64 (k : Int), .pointer (some ⟨b, 0, none⟩)] w fun e w' => e = .returned (.tuple #[.int .i64 (pxx wd k), .int .i64 (pxy wd k)]) ∧ Ext w w' := by
  have hw0 : (wd : Int) ≠ 0 := by omega
  have ht1 : Int.tmod (k : Int) (wd : Int) = pxx wd k := Int.tmod_eq_emod_of_nonneg (by omega)
  have ht2 : Int.tdiv (k : Int) (wd : Int) = pxy wd k := Int.tdiv_eq_ediv_of_nonneg (by omega)
  obtain ⟨hpi, h1, h2, h3, h4⟩ := pix_in2 hw1 hw2 hk
  have hq : IntKind.i64.wrap (pxy wd k) = pxy wd k := IntWalk.i64_in _ (by omega)
  go_enter Try.func93, Try.ntmps93
  go_wp2_with fail
  refine wp_region_ext (by kernel_rfl) (by kernel_rfl) ?_
  repeat (go_big_quiet_step (fail))
  refine wpQuiet_nil ?_
  intro w1 hX1
  go_wp2_with fail
  go_ret2
  exact ⟨rfl, hX1⟩
theorem row_grown {W X : World} {base : Nat} {e : TypeId} {size k : Nat} {v : Value} {xs : List Value} {r : Option Nat} (h : W.ownsRow base e size v k xs) (hg : W.grownBy X r) (hne : v.ownBlock ≠ r) : X.ownsRow base e size v k xs := by
  refine ⟨h.1, ?_⟩
  rcases h.2 with h0 | ⟨g, cap, cur, rfl, hbg, hgg, h1, h2, h3⟩
  · exact .inl h0
  · refine .inr ⟨g, cap, cur, rfl, hbg, ?_, h1, h2, h3⟩
    have hlt := (Array.getElem?_eq_some_iff.1 hgg).1
    exact (hg.block g hlt hne).trans hgg
/-- what share hands back -/
def RetShare (l : List Site) (wd ht : Nat) (S : List Int) (w : World) (e : Ending) (w' : World) : Prop :=
  ∃ O a c, e = .returned (.slice a O.length c) ∧ Ints w' a O ∧ ShareOf l wd ht S O ∧ Ext w w'
theorem sv_def (s : Site) : sv s = .agg #[.int .i64 s.x, .int .i64 s.y, .int .i64 s.w] := rfl
/-- the first q sites are told -/
def farTo (l : List Site) (wd m q : Nat) : List Int := (List.range l.length).map fun i => if i < q then dC l wd m i else 0
def byTo (l : List Site) (m q : Nat) : List (Int × Int) := (List.range l.length).map fun i => if i < q then (-1, (m : Int)) else (0, 0)
theorem farTo_length (l : List Site) (wd m q : Nat) : (farTo l wd m q).length = l.length := by simp [farTo]
theorem byTo_length (l : List Site) (m q : Nat) : (byTo l m q).length = l.length := by simp [byTo]
theorem farTo_zero (l : List Site) (wd m : Nat) : farTo l wd m 0 = List.replicate l.length 0 := by unfold farTo; rw [List.eq_replicate_iff]; simp
theorem byTo_zero (l : List Site) (m : Nat) : byTo l m 0 = List.replicate l.length (0, 0) := by unfold byTo; rw [List.eq_replicate_iff]; simp
theorem farTo_set {l : List Site} {wd m q : Nat} : (farTo l wd m q).set q (dC l wd m q) = farTo l wd m (q + 1) := List.ext_getElem (by simp [farTo]) fun j h1 h2 => by
  rw [List.getElem_set]
  simp only [farTo, List.getElem_map, List.getElem_range]
  by_cases e : q = j
  · subst e; simp
  · rw [if_neg e]
    by_cases h : j < q
    · rw [if_pos h, if_pos (by omega)]
    · rw [if_neg h, if_neg (by omega)]
theorem byTo_set {l : List Site} {m q : Nat} : (byTo l m q).set q (-1, (m : Int)) = byTo l m (q + 1) := List.ext_getElem (by simp [byTo]) fun j h1 h2 => by
  rw [List.getElem_set]
  simp only [byTo, List.getElem_map, List.getElem_range]
  by_cases e : q = j
  · subst e; simp
  · rw [if_neg e]
    by_cases h : j < q
    · rw [if_pos h, if_pos (by omega)]
    · rw [if_neg h, if_neg (by omega)]
theorem farTo_at {l : List Site} {wd m v : Nat} (hv : v < l.length) : gi (farTo l wd m l.length) v = dC l wd m v := by simp [gi, farTo, hv]
theorem byTo_at {l : List Site} {m v : Nat} (hv : v < l.length) : gp (byTo l m l.length) v = (-1, (m : Int)) := by simp [gp, byTo, hv]
theorem sumN_term0 {f : Nat → Int} {n : Nat} (h : ∀ i, i < n → 0 ≤ f i) {a : Nat} (ha : a < n) : f a ≤ sumN f n := sumN_term h ha
theorem dC_in {l : List Site} {wd m q : Nat} (hq : q < l.length) : dC l wd m q = sq l[q] (pxx wd m) (pxy wd m) := by unfold dC; rw [sqAt_in hq]
set_option maxRecDepth 20000 in
set_option maxHeartbeats 16000000 in
theorem f81_c (a b : Option Addr) (n c m0 d : Nat) (l : List Site) (S : List Int) (wd ht : Nat) (w : World) (hl : Sites w a l) (hS : Ints w b S) (hn : l.length = n) (hm : S.length = m0) (hok : okShared l wd ht S = true) :
    Calls Try.prog 81 #[.slice a n c, .int .i64 wd, .int .i64 ht, .slice b m0 d] w (RetShare l wd ht S w) := by
  subst hn hm
  obtain ⟨s1, s2, s3, s4⟩ := shared_spec.1 hok
  obtain ⟨f0, f1, f2, f3, f4⟩ := okField_bd s1
  have hcell : CellOk l wd ht := ⟨f0, by omega, by omega, by omega⟩
  have hn5 := hcell.n
  have hpx := hcell.pix
  have hw1 := hcell.w1
  have hw2 := hcell.w2
  have hh2 := hcell.h2
  have Hc := Lib.hid hcell
  have Hsum : Hid (S.sum = (wd * ht : Nat)) := Lib.hid (by rw [s4]; simp)
  have HSl := Lib.hid s2
  have HSn : Hid (∀ i, i < l.length → 0 ≤ gi S i) := Lib.hid (fun i hi => by rw [gi_at (by omega)]; exact s3 i (by omega))
  have hS1 : 0 < S.length := by omega
  have hS5 : S.length ≤ 5 := by omega
  obtain ⟨bs, os, rfl, _, _⟩ := hS 0 hS1
  obtain ⟨i0, hi0⟩ := info_p info3'
  have Hi := Lib.hid hi0
  obtain ⟨i1, hi1⟩ := info_p info108
  have Hi2 := Lib.hid hi1
  clear s1 s2 s3 s4 f0 f1 f2 f3 f4 hcell hok hi0 hi1
  have hprod : (wd : Int) * (ht : Int) = ((wd * ht : Nat) : Int) := by simp
  have hE0 := ext_alloc w (.cells #[.int .i64 (wd : Int)] 3)
  have HB := Lib.hid (BlkC.new w #[.int .i64 (wd : Int)] 3)
  go_enter Try.func81, Try.ntmps81
  go_wp2_with fail
  generalize (w.alloc (.cells #[.int .i64 (wd : Int)] 3)) = w0 at *
  refine (f92_c bs os S.length d S _ (hS.ext hE0) rfl hS1 (by omega)).mono ?_
  rintro e w1 ⟨gl, cl, rfl, hL, hX1⟩
  have hE1 := hE0.trans' hX1
  have HL0 := Lib.hid hL
  have hgl := hL.slot
  have g0 := (HB.out.ext hX1).cellv 0 (v := .int .i64 (wd : Int)) rfl
  have hz := (HB.out.ext hX1).lt
  have Hst := Lib.hid (sh_start (l := l) (wd := wd) (ht := ht) HSl.out HSn.out)
  clear hL
  generalize hN : wd * ht = N at *
  have HN := Lib.hid hN
  clear hN
  go_wp2_with fail
  go_loopw [9, 37] (fun ov i wr => ∃ (m : Nat) (O L : List Int), m ≤ N ∧ i = .int .i64 m ∧ Ext w0 wr ∧ w1.heap.size ≤ wr.heap.size ∧ Hid (wr.ownsRow w1.heap.size 3 1 ov m (O.map (.int .i64))) ∧ Hid (OwnG wr 3 w0.heap.size gl S.length cl L) ∧ Hid (ShOk l wd ht S m O L)) (fun _ i _ => N - (intOf i).toNat)
  case atStart => exact ⟨0, [], S, Nat.zero_le _, rfl, hX1, Nat.le_refl _, Lib.hid (World.ownsRow_nil _ _ _ _), HL0, Hst⟩
  case round =>
    obtain ⟨m, O, L, hm, rfl, hX2, hw12, HO, HL, HS⟩ := hrel
    have hE2 := hE0.trans' hX2
    clear g0 hz
    have g0 := (HB.out.ext hX2).cellv 0 (v := .int .i64 (wd : Int)) rfl
    have hz := (HB.out.ext hX2).lt
    by_cases hlm : m < N
    case neg =>
      obtain rfl : m = N := by omega
      obtain ⟨a9, c9, e9, hI9⟩ := ints_of_row HO.out
      subst e9
      have HR : Hid (RetShare l wd ht S w (.returned (.slice a9 O.length c9)) wr) := Lib.hid (by
        have h1 := HS.out
        rw [← HN.out] at h1
        exact ⟨O, a9, c9, rfl, hI9, h1.share HSl.out (by rw [HN.out]; exact Hsum.out), hE2⟩)
      go_wp2_with fail
      go_ret
      exact HR.out
    obtain ⟨wo, rfl⟩ : ∃ wo : World, wo = wr := ⟨_, rfl⟩
    have hm144 : m < 144 := by omega
    have hglw := HL.out.slot
    go_wp2_with fail
    refine (f93_c m wd w.heap.size _ hw1 hw2 hm144 g0 hz).mono ?_
    rintro e w3 ⟨rfl, hX3⟩
    have hX03 := hX2.trans' hX3
    have hE3 := hE0.trans' hX03
    have HO3 := Lib.hid (row_ext HO.out hX3)
    have HL3 := Lib.hid (HL.out.ext hX3)
    have hw13 : w1.heap.size ≤ w3.heap.size := Nat.le_trans hw12 hX3.size
    have hne := row_far HO3.out hgl.1
    go_wp2_with (at_builtin; refine wpList_push1 (x := -1) rfl (.tmp 46) (.tmp 47) 26 rfl Hi.out Try.underlying26 rfl rfl HO3.out (by omega) hw13 ?_; intro v4 w4 hown hgrow hat; have hX04 := ext_append hX03 HO3.out hX1.size hgrow; have HL4 := Lib.hid (row_grown ((HL3.out).ext (ext_alloc _ _)) hgrow hne); have HO4 := Lib.hid hown; clear hown hat)
    obtain ⟨g4, c4, rfl, hg41, hg42⟩ := ownsRow_form HO4.out (by omega)
    have HO5 : Hid (OwnG w4 3 w1.heap.size g4 (m + 1) c4 (O ++ [-1])) := Lib.hid HO4.out
    have hc4 := HO5.out.slot
    clear HO4 hg41 hg42
    have hw14 : w1.heap.size ≤ w4.heap.size := Nat.le_trans hw13 (Nat.le_trans (by simp) hgrow.size)
    have hgr : w0.heap.size ≤ w4.heap.size := hX04.size
    clear hgrow hX3 HO3 HL3 hne g0 hz HO HL
    go_cut [15, 16] from 49 to 54 (fun v15 v16 wx => ∃ gA gB, v15 = .slice (some ⟨gA, 0, none⟩) l.length l.length ∧ v16 = .slice (some ⟨gB, 0, none⟩) l.length l.length ∧ Hid (OwnG wx 3 w4.heap.size gA l.length l.length (List.replicate l.length 0)) ∧ Hid (OwnP wx w4.heap.size gB l.length (List.replicate l.length (0, 0))) ∧ gA ≠ gB ∧ Ext w4 wx)
    case first =>
      go_region_held3 (fun w' => True) (first | assumption | trivial | go_keep)
        (first
          | (refine upon_make w4.heap.size 3 i0 (.int .i64 0) 1 Try.underlying26 Hi.out.1 Hi.out.2.1 Hi.out.2.2.1 (by rw [Hi.out.2.2.2]; omega) (by unfold maxLen; omega) (by first | exact hXm.size | exact (ext_drew _).size) ?_
             intro wm hom hgrow
             first
               | (have hXn : Ext wo1 wm := (Below.refl _ _).grown hgrow (Nat.le_refl _) (by simp)
                  have hXk := hXm.trans' hXn)
               | (have hXm : Ext w4 wm := (ext_drew _).trans' ((Below.refl _ _).grown hgrow (Nat.le_refl _) (by simp))
                  obtain ⟨wo1, hwo1⟩ : ∃ wo1 : World, wo1 = wm := ⟨_, rfl⟩
                  subst hwo1
                  have hom1 := hom
                  clear hom))
          | (refine upon_make w4.heap.size 108 i1 (.agg #[.int .i64 0, .int .i64 0]) 2 Try.underlying107 Hi2.out.1 Hi2.out.2.1 Hi2.out.2.2.1 (by rw [Hi2.out.2.2.2]; omega) (by unfold maxLen; omega) (by first | exact hXm.size | exact (ext_drew _).size) ?_
             intro wm hom hgrow
             first
               | (have hXn : Ext wo1 wm := (Below.refl _ _).grown hgrow (Nat.le_refl _) (by simp)
                  have hXk := hXm.trans' hXn)
               | (have hXm : Ext w4 wm := (ext_drew _).trans' ((Below.refl _ _).grown hgrow (Nat.le_refl _) (by simp))
                  obtain ⟨wo1, hwo1⟩ : ∃ wo1 : World, wo1 = wm := ⟨_, rfl⟩
                  subst hwo1
                  have hom1 := hom
                  clear hom)))
      · have hF := (made_own hom1).ext hXn
        have hF2 := made_pairs hom
        have hF3 := (made_own hom1).slot
        go_wp2_with fail
        go_meet
        case rel => exact ⟨_, _, rfl, rfl, Lib.hid hF, Lib.hid hF2, by simp at hF3 ⊢; omega, hXk⟩
      · have hF := (made_pairs hom1).ext hXn
        have hF2 := made_own hom
        have hF3 := (made_pairs hom1).slot
        go_wp2_with fail
        go_meet
        case rel => exact ⟨_, _, rfl, rfl, Lib.hid hF2, Lib.hid hF, by simp at hF3 ⊢; omega, hXk⟩
    case rest =>
      obtain ⟨gA, gB, rfl, rfl, HA, HP, hAB, hX5⟩ := hcut
      have HA0 : Hid (OwnG wc 3 w4.heap.size gA l.length l.length (farTo l wd m 0)) := Lib.hid (by rw [farTo_zero]; exact HA.out)
      have HP0 : Hid (OwnP wc w4.heap.size gB l.length (byTo l m 0)) := Lib.hid (by rw [byTo_zero]; exact HP.out)
      have hgA := HA.out.slot
      have hgB := HP.out.slot
      have hgAB : w4.heap.size ≤ gA ∧ w4.heap.size ≤ gB := ⟨hgA.2.2, hgB.2⟩
      clear HA HP hgA hgB
      have hE4 := hE0.trans' hX04
      have Hpin := Lib.hid (fun k hk => (pix_in2 (wd := wd) (k := k) hw1 hw2 hk).1)
      have Hnear : Hid (∀ q, (h : q < l.length) → ∀ k, k < 144 → Near l[q] (pxx wd k) (pxy wd k)) := Lib.hid (fun q h k hk => ⟨okSites_at Hc.out.sites h, Hpin.out k hk⟩)
      have Hdb : Hid (∀ k, k < N → ∀ q, q < l.length → 0 ≤ dC l wd k q ∧ dC l wd k q ≤ 3362) := Lib.hid (fun k hk q hq => dC_bd Hc.out (by rw [HN.out]; exact hk) hq)
      go_wp2_with fail
      go_loopw [57] (fun i wr => ∃ q : Nat, q ≤ l.length ∧ i = .int .i64 q ∧ Ext w4 wr ∧ Hid (OwnG wr 3 w4.heap.size gA l.length l.length (farTo l wd m q)) ∧ Hid (OwnP wr w4.heap.size gB l.length (byTo l m q))) (fun i _ => l.length - (intOf i).toNat)
      case atStart => exact ⟨0, Nat.zero_le _, rfl, hX5, HA0, HP0⟩
      case round =>
        obtain ⟨q, hq, rfl, hX6, HA, HP⟩ := hrel
        have hE6 := hE4.trans' hX6
        by_cases hlq : q < l.length
        case pos =>
          obtain ⟨b1, o1, e1, hb1, hcx, hcy, hcw⟩ := hl.ext hE6 q hlq
          subst e1
          have hnr := Hnear.out q hlq m hm144
          have hdq := Hdb.out m hlm q hlq
          have Hd := Lib.hid (dC_in (wd := wd) (m := m) hlq)
          have hXA := ext_alloc wr (.cells #[.int .i64 l[q].x, .int .i64 l[q].y, .int .i64 l[q].w] 31)
          have HT := Lib.hid (BlkC.new wr #[.int .i64 l[q].x, .int .i64 l[q].y, .int .i64 l[q].w] 31)
          have t0 := HT.out.cellv 0 (v := .int .i64 l[q].x) rfl
          have t1 := HT.out.cellv 1 (v := .int .i64 l[q].y) rfl
          have t2 := HT.out.cellv 2 (v := .int .i64 l[q].w) rfl
          have tl := HT.out.lt
          have C87 := Lib.hid (fun W => f87_c l[q] (pxx wd m) (pxy wd m) W hnr)
          rw [sv_def, ← dC_in hlq] at C87
          go_wp2_with fail
          refine (C87.out _).mono ?_
          rintro e w7 ⟨rfl, hX7⟩
          have hXr7 := hXA.trans' hX7
          have HA7 := Lib.hid (HA.out.ext hXr7)
          have HP7 := Lib.hid (HP.out.ext hXr7)
          have cA := HA7.out.cell (i := q) (by rw [farTo_length]; exact hlq)
          have fA := HA7.out.froz q
          obtain ⟨cP1, cP2⟩ := HP7.out.cell (i := q) (by rw [byTo_length]; exact hlq)
          have fP1 := HP7.out.froz (q * 2)
          have fP2 := HP7.out.froz (q * 2 + 1)
          have zA := HA7.out.slot
          have zP := HP7.out.slot
          have HA8 := Lib.hid (((HA7.out.store q (dC l wd m q)).other (g' := gB) (fun e => hAB e.symm) (q * 2) (.int .i64 (-1))).other (g' := gB) (fun e => hAB e.symm) (q * 2 + 1) (.int .i64 (m : Int)))
          have HP8 := Lib.hid ((HP7.out.other (g' := gA) hAB q (.int .i64 (dC l wd m q))).store (i := q) (by rw [byTo_length]; exact hlq) (-1) (m : Int))
          rw [farTo_set] at HA8
          rw [byTo_set] at HP8
          have hX8 := (((hX6.trans' hXr7).setCell (p := ⟨gA, q, none⟩) hgAB.1 (.int .i64 (dC l wd m q))).setCell (p := ⟨gB, q * 2, none⟩) hgAB.2 (.int .i64 (-1))).setCell (p := ⟨gB, q * 2 + 1, none⟩) hgAB.2 (.int .i64 (m : Int))
          clear t0 t1 t2 hcx hcy hcw HT
          go_wp2_with fail
          go_roundw
          case rel => exact ⟨q + 1, by omega, by go_num, hX8, HA8, HP8⟩
          case measure => simp [intOf]; omega
        obtain rfl : q = l.length := by omega
        obtain ⟨p, hp⟩ := HS.out.fits
        have Hp := Lib.hid hp
        have HOw := Lib.hid HS.out.own
        have HOl : Hid (m ≤ O.length) := Lib.hid (by rw [HS.out.len]; exact Nat.le_refl _)
        have HOn := Lib.hid HS.out.len
        have Hm : Hid (m < wd * ht) := Lib.hid (by rw [HN.out]; exact hlm)
        have HG0 : Hid (Good l wd ht m O p ⟨farTo l wd m l.length, byTo l m l.length, 0⟩) := Lib.hid (Good.start (fun v hv => Hdb.out m hlm v hv) (farTo_length _ _ _ _) (byTo_length _ _ _) (fun v hv => farTo_at hv) (fun v hv => byTo_at hv) 0)
        obtain ⟨st0, hst0⟩ : ∃ st0 : CS, st0 = ⟨farTo l wd m l.length, byTo l m l.length, 0⟩ := ⟨_, rfl⟩
        rw [← hst0] at HG0
        have HA1 : Hid (OwnG wr 3 w4.heap.size gA l.length l.length st0.at_) := Lib.hid (by rw [hst0]; exact HA.out)
        have HP1 : Hid (OwnP wr w4.heap.size gB l.length st0.by_) := Lib.hid (by rw [hst0]; exact HP.out)
        have hmu0 := HG0.out.mu Hc.out Hm.out HOw.out HOl.out
        have HF0 : Hid (2 * muC l st0 + (if true = true then 1 else 0) ≤ (((2 * muC l st0 + 1).toNat : Nat) : Int)) := Lib.hid (by rw [if_pos rfl]; omega)
        have Hag0 : Hid (true = false → (cArcs (dC l wd) (oF O)).Sat farC (cList m l.length) (viewC st0).at_) := Lib.hid (fun h => by simp at h)
        clear hst0 HA HP hp hmu0 hlq
        generalize (2 * muC l st0 + 1).toNat = F0 at *
        have HO6 := Lib.hid (HO5.out)
        have HB4 := Lib.hid (HB.out.ext hX04)
        obtain ⟨wd0, rfl⟩ : ∃ wd0 : World, wd0 = wr := ⟨_, rfl⟩
        go_wp2_with fail
        go_loopg [19] F0 (fun F v19 wr => ∃ (st : CS) (ag : Bool), v19 = .bool ag ∧ Ext w4 wr ∧ Hid (OwnG wr 3 w4.heap.size gA l.length l.length st.at_) ∧ Hid (OwnP wr w4.heap.size gB l.length st.by_) ∧ Hid (Good l wd ht m O p st) ∧ Hid (ag = false → (cArcs (dC l wd) (oF O)).Sat farC (cList m l.length) (viewC st).at_) ∧ Hid (2 * muC l st + (if ag = true then 1 else 0) ≤ (F : Int)))
        case atStart => exact ⟨st0, true, rfl, hX6, HA1, HP1, HG0, Hag0, HF0⟩
        case round =>
          obtain ⟨st, ag, rfl, hX7, HA, HP, HG, Hag, HF⟩ := hrel
          obtain ⟨F, rfl⟩ : ∃ F : Nat, F = gk := ⟨_, rfl⟩
          clear HA1 HP1 HG0 Hag0 HF0
          have hE7 := hE4.trans' hX7
          have HO7 := Lib.hid (HO6.out.ext hX7)
          have g0 := (HB4.out.ext hX7).cellv 0 (v := .int .i64 (wd : Int)) rfl
          have hz := (HB4.out.ext hX7).lt
          cases ag with
          | false =>
            have hsat := Hag.out rfl
            have Hsat := Lib.hid hsat
            have HL7 := Lib.hid ((show OwnG w4 3 w0.heap.size gl S.length cl L from HL4.out).ext hX7)
            obtain ⟨wz, rfl⟩ : ∃ wz : World, wz = wr := ⟨_, rfl⟩
            have Hlen : Hid (L.length = l.length) := Lib.hid HS.out.ll
            have HLlen : Hid (st.at_.length = l.length) := Lib.hid HG.out.la
            have Hbb := Lib.hid (fun k => bestS_bd L st.at_ k)
            have Hb0 : Hid (bestS L st.at_ 0 = -1) := Lib.hid rfl
            have Hlb0 : Hid (∀ v, v < l.length → -13448 ≤ gi st.at_ v ∧ gi st.at_ v ≤ 3362) := Lib.hid (fun v hv => ⟨HG.out.lo Hc.out Hm.out HOw.out HOl.out hv, HG.out.hi Hc.out Hm.out hv⟩)
            have HLb : Hid (∀ v, v < l.length → 0 ≤ gi L v ∧ gi L v ≤ 144) := Lib.hid (fun v hv => by
              obtain ⟨x1, x2⟩ := HS.out.lf v hv
              have x3 := (cntO_bd (oF O) v m).1
              have x4 := sumN_term0 (f := gi S) (n := l.length) HSn.out hv
              rw [sumN_list S _ (by rw [HSl.out]; exact Nat.le_refl _), List.take_of_length_le (by rw [HSl.out]; exact Nat.le_refl _), Hsum.out] at x4
              omega)
            clear hsat Hag HF
            go_wp2_with fail
            go_loopw [27, 135] (fun v27 i wr => ∃ q : Nat, q ≤ l.length ∧ i = .int .i64 q ∧ v27 = .int .i64 (bestS L st.at_ q) ∧ Ext wz wr) (fun _ i _ => l.length - (intOf i).toNat)
            case atStart => exact ⟨0, Nat.zero_le _, rfl, by rw [Hb0.out], Ext.rfl' _⟩
            case round =>
              obtain ⟨q, hq, rfl, rfl, hX8⟩ := hrel
              have hX48 := hX7.trans' hX8
              have hE8 := hE4.trans' hX48
              have HA8 := Lib.hid (HA.out.ext hX8)
              have HL8 := Lib.hid (HL7.out.ext hX8)
              have bq := Hbb.out q
              by_cases hlq : q < l.length
              case pos =>
                have cl1 := HL8.out.cell (i := q) (by rw [Hlen.out]; exact hlq)
                have zl := HL8.out.slot
                have ca := HA8.out.cell (i := q) (by rw [HLlen.out]; exact hlq)
                have za := HA8.out.slot
                rw [gi_def] at cl1 ca
                have Hs1 := Lib.hid (bestS_1 (left := L) (far := st.at_) (k := q))
                have Hs2 := Lib.hid (bestS_2 (left := L) (far := st.at_) (k := q))
                have Hs3 := Lib.hid (fun p => bestS_3 (left := L) (far := st.at_) (k := q) (q := p))
                have Hs4 := Lib.hid (fun p => bestS_4 (left := L) (far := st.at_) (k := q) (q := p))
                have lq := HLb.out q hlq
                have aq := Hlb0.out q hlq
                have hqS : q < S.length := by rw [HSl.out]; exact hlq
                have Hcell : Hid (∀ p, p < l.length → wr.cell? ⟨gA, p, none⟩ = some (.int .i64 (gi st.at_ p))) := Lib.hid (fun p hp => by
                  have := HA8.out.cell (i := p) (by rw [HLlen.out]; exact hp)
                  rwa [gi_def] at this)
                generalize bestS L st.at_ q = b1 at *
                generalize gi L q = lv at *
                generalize gi st.at_ q = av at *
                by_cases h1 : 0 < lv
                case neg =>
                  have hd1 : decide (0 < lv) = false := decide_eq_false h1
                  have HR := Lib.hid (Hs1.out h1)
                  clear h1 Hs1 Hs2 Hs3 Hs4
                  go_wp2_with fail
                  refine wp_region_ext (by kernel_rfl) (by kernel_rfl) ?_
                  repeat (go_big_quiet_step (fail))
                  refine wpQuiet_nil ?_
                  intro w9 hX9
                  go_wp2_with fail
                  go_roundw
                  case rel => exact ⟨q + 1, by omega, by go_num, by rw [HR.out], hX8.trans' hX9⟩
                  case measure => simp [intOf]; omega
                have hd1 : decide (0 < lv) = true := decide_eq_true h1
                by_cases h2 : b1 < 0
                case pos =>
                  have hd2 : decide (b1 < 0) = true := decide_eq_true h2
                  have HR := Lib.hid (Hs2.out h1 h2)
                  clear h1 h2 Hs1 Hs2 Hs3 Hs4
                  go_wp2_with fail
                  refine wp_region_ext (by kernel_rfl) (by kernel_rfl) ?_
                  repeat (go_big_quiet_step (fail))
                  refine wpQuiet_nil ?_
                  intro w9 hX9
                  go_wp2_with fail
                  go_roundw
                  case rel => exact ⟨q + 1, by omega, by go_num, by rw [HR.out], hX8.trans' hX9⟩
                  case measure => simp [intOf]; omega
                have hd2 : decide (b1 < 0) = false := decide_eq_false h2
                obtain ⟨p1, rfl⟩ := Int.eq_ofNat_of_zero_le (show 0 ≤ b1 by omega)
                have hp1 : p1 < l.length := by omega
                have cp := Hcell.out p1 hp1
                have ap := Hlb0.out p1 hp1
                have Hs3' := Lib.hid (Hs3.out p1)
                have Hs4' := Lib.hid (Hs4.out p1)
                generalize gi st.at_ p1 = pv at *
                by_cases h3 : av < pv
                case pos =>
                  have hd3 : decide (av < pv) = true := decide_eq_true h3
                  have HR := Lib.hid (Hs3'.out h1 rfl h3)
                  clear h1 h2 h3 Hs1 Hs2 Hs3 Hs4 Hs3' Hs4'
                  go_wp2_with fail
                  refine wp_region_ext (by kernel_rfl) (by kernel_rfl) ?_
                  repeat (go_big_quiet_step (fail))
                  refine wpQuiet_nil ?_
                  intro w9 hX9
                  go_wp2_with fail
                  go_roundw
                  case rel => exact ⟨q + 1, by omega, by go_num, by rw [HR.out], hX8.trans' hX9⟩
                  case measure => simp [intOf]; omega
                have hd3 : decide (av < pv) = false := decide_eq_false h3
                have HR := Lib.hid (Hs4'.out rfl h3)
                clear h1 h2 h3 Hs1 Hs2 Hs3 Hs4 Hs3' Hs4'
                go_wp2_with fail
                refine wp_region_ext (by kernel_rfl) (by kernel_rfl) ?_
                repeat (go_big_quiet_step (fail))
                refine wpQuiet_nil ?_
                intro w9 hX9
                go_wp2_with fail
                go_roundw
                case rel => exact ⟨q + 1, by omega, by go_num, by rw [HR.out], hX8.trans' hX9⟩
                case measure => simp [intOf]; omega
              obtain rfl : q = l.length := by omega
              have hbest : ∃ bv : Nat, bestS L st.at_ l.length = (bv : Int) ∧ bv < l.length ∧ 0 < gi L bv := by
                obtain ⟨v, hv, hv2⟩ := HS.out.some_left HSl.out (by rw [Hsum.out, HN.out]) Hm.out
                have hb0 : 0 ≤ bestS L st.at_ l.length := by
                  by_cases hb : bestS L st.at_ l.length < 0
                  · exact absurd hv2 (bestS_no hb v hv)
                  · omega
                have := bestS_yes hb0
                exact ⟨(bestS L st.at_ l.length).toNat, by omega, this.1, this.2⟩
              obtain ⟨bv, hbe, hbl, hbp⟩ := hbest
              rw [hbe]
              obtain ⟨O', hw1', hw2'⟩ := walk_all Hc.out Hm.out HS.out HG.out Hsat.out hbl hbp
              have HW0 := Lib.hid hw1'
              have HWe := Lib.hid hw2'
              have lb := HLb.out bv hbl
              have clb := HL8.out.cell (i := bv) (by rw [Hlen.out]; exact hbl)
              rw [gi_def] at clb
              have zl := HL8.out.slot
              have fl := HL8.out.froz bv
              have zO := HO7.out.slot
              have hOw0 : Hid ((O ++ [-1]).length = m + 1) := Lib.hid (by rw [List.length_append, HOn.out]; rfl)
              have HNat0 : Hid (∀ k, k < m → 0 ≤ gi (O ++ [-1]) k) := Lib.hid (fun k hk => by
                obtain ⟨o1, o2⟩ := oF_lt HOw.out (show k < O.length by rw [HOn.out]; exact hk)
                have e : gi (O ++ [-1]) k = gi O k := by unfold gi; rw [List.getElem?_append_left (by rw [HOn.out]; exact hk)]
                rw [e, o2]; omega)
              have hg40 : w0.heap.size ≤ g4 := by have := hX1.size; omega
              have hg4l : g4 ≠ gl := by omega
              have hgBl : gB ≠ gl := by omega
              have hg4B : g4 ≠ gB := by omega
              have HO8 := Lib.hid ((HO7.out.ext hX8).other (g' := gl) (fun e => hg4l e.symm) bv (.int .i64 (gi L bv - 1)))
              have HP8 := Lib.hid ((HP.out.ext hX8).other (g' := gl) (fun e => hgBl e.symm) bv (.int .i64 (gi L bv - 1)))
              have HL9 := Lib.hid (HL8.out.store bv (gi L bv - 1))
              have hX09 : Ext w0 _ := (hX04.trans' hX48).setCell (p := ⟨gl, bv, none⟩) hgl.2.2 (.int .i64 (gi L bv - 1))
              have hw19 : w1.heap.size ≤ (wr.setCell ⟨gl, bv, none⟩ (.int .i64 (gi L bv - 1))).heap.size := by
                have := hX48.size
                simp; omega
              clear hbe hbp hw1' hw2' HA HL7 HL8 HA8 Hbb
              generalize gi L bv = lv at *
              generalize L.set bv (lv - 1) = L2 at *
              have hbS : bv < S.length := by rw [HSl.out]; exact hbl
              go_wp2_with fail
              clear clb fl zl
              go_loopg [29] l.length (fun F v29 wr => ∃ Oc : List Int, Ext w0 wr ∧ w1.heap.size ≤ wr.heap.size ∧ Hid (OwnG wr 3 w1.heap.size g4 (m + 1) c4 Oc) ∧ Hid (OwnG wr 3 w0.heap.size gl S.length cl L2) ∧ Hid (OwnP wr w4.heap.size gB l.length st.by_) ∧ ((∃ v : Nat, v29 = .int .i64 v ∧ v < l.length ∧ Hid (∀ k, k < m → 0 ≤ gi Oc k) ∧ Hid (walkO (viewC st).by_ (cArcs (dC l wd) (oF O)).fr m F v (oF Oc) = some O')) ∨ (v29 = .int .i64 (-1) ∧ Hid (∀ k, k < m + 1 → 0 ≤ gi Oc k) ∧ Hid (O' = oF Oc))))
              case atStart => exact ⟨O ++ [-1], hX09, hw19, HO8, HL9, HP8, .inl ⟨bv, rfl, hbl, HNat0, HW0⟩⟩
              case round =>
                obtain ⟨Oc, hX10, hw10, HOc, HLc, HPc, hcase⟩ := hrel
                obtain ⟨F, rfl⟩ : ∃ F : Nat, F = gk := ⟨_, rfl⟩
                rcases hcase with ⟨v, rfl, hv, HNt, HWk⟩ | ⟨rfl, HNt, HOe⟩
                case inr =>
                  have HSn := Lib.hid (HWe.out Oc HOc.out.len (fun k hk => by
                    have h1 := HNt.out k hk
                    rw [HOe.out]; unfold oF; omega))
                  clear HW0 HWe
                  go_wp2_with fail
                  go_roundw
                  case rel => exact ⟨m + 1, Oc, L2, by omega, by go_num, hX10, hw10, HOc, HLc, HSn⟩
                  case measure => simp [intOf]; omega
                have hlp : v < st.by_.length := by rw [HG.out.lb]; exact hv
                obtain ⟨cP1, cP2⟩ := HPc.out.cell hlp
                have zP := HPc.out.slot
                have zO := HOc.out.slot
                obtain ⟨F2, hF2, hstep⟩ := walk_step HG.out HOc.out.len hv HWk.out
                have Hstep := Lib.hid hstep
                clear hstep hlp
                rcases Hstep.out with ⟨e1, e2⟩ | ⟨k, hk, e1, e2⟩
                case inl =>
                  rw [e1] at cP1 cP2
                  simp only at cP1 cP2
                  have hOcl : m < Oc.length := by rw [HOc.out.len]; omega
                  have HN2 : Hid (∀ k, k < m + 1 → 0 ≤ gi (Oc.set m (v : Int)) k) := Lib.hid (fun k hk => by
                    rw [gi_set _ _ _ _ hOcl]
                    split
                    · omega
                    · exact HNt.out k (by omega))
                  have HE2 := Lib.hid e2
                  have hXA := ext_alloc wr (.cells #[.int .i64 (-1), .int .i64 (m : Int)] 108)
                  have HT := Lib.hid (BlkC.new wr #[.int .i64 (-1), .int .i64 (m : Int)] 108)
                  have HOc2 := Lib.hid (HOc.out.ext hXA)
                  have HLc2 := Lib.hid (HLc.out.ext hXA)
                  have HPc2 := Lib.hid (HPc.out.ext hXA)
                  have t0 := HT.out.cellv 0 (v := .int .i64 (-1)) rfl
                  have t1 := HT.out.cellv 1 (v := .int .i64 (m : Int)) rfl
                  have tl := HT.out.lt
                  have cO := HOc2.out.cell (i := m) hOcl
                  have fO := HOc2.out.froz m
                  have zO2 := HOc2.out.slot
                  rw [gi_def] at cO
                  generalize gi Oc m = ov at *
                  have HOc3 := Lib.hid ((HOc.out.store m (v : Int)).ext (ext_alloc _ (.cells #[.int .i64 (-1), .int .i64 (m : Int)] 108)))
                  have HLc3 := Lib.hid ((HLc.out.other (g' := g4) hg4l m (.int .i64 (v : Int))).ext (ext_alloc _ (.cells #[.int .i64 (-1), .int .i64 (m : Int)] 108)))
                  have HPc3 := Lib.hid ((HPc.out.other (g' := g4) hg4B m (.int .i64 (v : Int))).ext (ext_alloc _ (.cells #[.int .i64 (-1), .int .i64 (m : Int)] 108)))
                  have hX11 : Ext w0 ((wr.setCell ⟨g4, m, none⟩ (.int .i64 (v : Int))).alloc (.cells #[.int .i64 (-1), .int .i64 (m : Int)] 108)) := Ext.trans' (hX10.setCell (p := ⟨g4, m, none⟩) hg40 (.int .i64 (v : Int))) (ext_alloc _ _)
                  have hw11 : w1.heap.size ≤ ((wr.setCell ⟨g4, m, none⟩ (.int .i64 (v : Int))).alloc (.cells #[.int .i64 (-1), .int .i64 (m : Int)] 108)).heap.size := by simp; omega
                  clear e1 e2 Hstep HWk HNt hOcl
                  generalize Oc.set m (v : Int) = Oc2 at *
                  go_wp2_with fail
                  go_roundg F2
                  case measure => omega
                  case rel => exact ⟨Oc2, hX11, hw11, HOc3, HLc3, HPc3, .inr ⟨rfl, HN2, HE2⟩⟩
                have hOcl : k < Oc.length := by rw [HOc.out.len]; omega
                have hko := (oF_lt HOw.out (show k < O.length by rw [HOn.out]; exact hk)).1
                rw [e1] at cP1 cP2
                simp only at cP1 cP2
                have HN2 : Hid (∀ k', k' < m → 0 ≤ gi (Oc.set k (v : Int)) k') := Lib.hid (fun k' hk => by
                  rw [gi_set _ _ _ _ hOcl]
                  split
                  · omega
                  · exact HNt.out k' hk)
                have HE2 := Lib.hid e2
                generalize hok' : oF O k = ok at *
                have hXA := ext_alloc wr (.cells #[.int .i64 (ok : Int), .int .i64 (k : Int)] 108)
                have HT := Lib.hid (BlkC.new wr #[.int .i64 (ok : Int), .int .i64 (k : Int)] 108)
                have HOc2 := Lib.hid (HOc.out.ext hXA)
                have HLc2 := Lib.hid (HLc.out.ext hXA)
                have HPc2 := Lib.hid (HPc.out.ext hXA)
                have t0 := HT.out.cellv 0 (v := .int .i64 (ok : Int)) rfl
                have t1 := HT.out.cellv 1 (v := .int .i64 (k : Int)) rfl
                have tl := HT.out.lt
                have cO := HOc2.out.cell (i := k) hOcl
                have fO := HOc2.out.froz k
                have zO2 := HOc2.out.slot
                rw [gi_def] at cO
                generalize gi Oc k = ov at *
                have HOc3 := Lib.hid ((HOc.out.store k (v : Int)).ext (ext_alloc _ (.cells #[.int .i64 (ok : Int), .int .i64 (k : Int)] 108)))
                have HLc3 := Lib.hid ((HLc.out.other (g' := g4) hg4l k (.int .i64 (v : Int))).ext (ext_alloc _ (.cells #[.int .i64 (ok : Int), .int .i64 (k : Int)] 108)))
                have HPc3 := Lib.hid ((HPc.out.other (g' := g4) hg4B k (.int .i64 (v : Int))).ext (ext_alloc _ (.cells #[.int .i64 (ok : Int), .int .i64 (k : Int)] 108)))
                have hX11 : Ext w0 ((wr.setCell ⟨g4, k, none⟩ (.int .i64 (v : Int))).alloc (.cells #[.int .i64 (ok : Int), .int .i64 (k : Int)] 108)) := Ext.trans' (hX10.setCell (p := ⟨g4, k, none⟩) hg40 (.int .i64 (v : Int))) (ext_alloc _ _)
                have hw11 : w1.heap.size ≤ ((wr.setCell ⟨g4, k, none⟩ (.int .i64 (v : Int))).alloc (.cells #[.int .i64 (ok : Int), .int .i64 (k : Int)] 108)).heap.size := by simp; omega
                clear e1 e2 Hstep HWk HNt hok' hOcl
                generalize Oc.set k (v : Int) = Oc2 at *
                go_wp2_with fail
                go_roundg F2
                case measure => omega
                case rel => exact ⟨Oc2, hX11, hw11, HOc3, HLc3, HPc3, .inl ⟨ok, rfl, hko, HN2, HE2⟩⟩
          | true =>
            have hF1 : 2 * muC l st + 1 ≤ (F : Int) := by have := HF.out; rwa [if_pos rfl] at this
            have hmu := HG.out.mu Hc.out Hm.out HOw.out HOl.out
            have hFF : 1 ≤ F := by omega
            have HF1 := Lib.hid hF1
            have Hpz : Hid (decide (0 ≤ (partC l wd O st 0 0).last) = false) := Lib.hid (by rw [partC_zero]; rfl)
            have HA0 : Hid (OwnG wr 3 w4.heap.size gA l.length l.length (partC l wd O st 0 0).at_) := HA
            have HP0 : Hid (OwnP wr w4.heap.size gB l.length (partC l wd O st 0 0).by_) := HP
            clear hF1 hmu HF Hag HA HP
            go_wp2_with fail
            obtain ⟨wa, rfl⟩ : ∃ wa : World, wa = wr := ⟨_, rfl⟩
            go_loopw [19, 80] (fun v19 i wr => ∃ k : Nat, k ≤ m ∧ i = .int .i64 k ∧ v19 = .bool (decide (0 ≤ (partC l wd O st k 0).last)) ∧ Ext w4 wr ∧ Hid (OwnG wr 3 w4.heap.size gA l.length l.length (partC l wd O st k 0).at_) ∧ Hid (OwnP wr w4.heap.size gB l.length (partC l wd O st k 0).by_)) (fun _ i _ => m - (intOf i).toNat)
            case atStart => exact ⟨0, Nat.zero_le _, rfl, by rw [Hpz.out], hX7, HA0, HP0⟩
            case round =>
              obtain ⟨k, hk, rfl, rfl, hX8, HA, HP⟩ := hrel
              have hE8 := hE4.trans' hX8
              have HO8 := Lib.hid (HO6.out.ext hX8)
              clear g0 hz
              have g0 := (HB4.out.ext hX8).cellv 0 (v := .int .i64 (wd : Int)) rfl
              have hz := (HB4.out.ext hX8).lt
              by_cases hlk : k < m
              case neg =>
                obtain rfl : k = m := by omega
                have hR := HG.out.round Hc.out Hm.out HOw.out HOl.out Hp.out
                have hRd : roundC l wd O st k = partC l wd O st k 0 := rfl
                have HGn : Hid (Good l wd ht k O p (partC l wd O st k 0)) := Lib.hid hR.1
                have HSn : Hid (decide (0 ≤ (partC l wd O st k 0).last) = false → (cArcs (dC l wd) (oF O)).Sat farC (cList k l.length) (viewC (partC l wd O st k 0)).at_) := Lib.hid (fun h => (HG.out.stays Hc.out Hm.out HOw.out HOl.out Hp.out (by have := of_decide_eq_false h; rw [hRd]; omega)).2)
                have HFn : Hid (2 * muC l (partC l wd O st k 0) + (if decide (0 ≤ (partC l wd O st k 0).last) = true then 1 else 0) ≤ ((F - 1 : Nat) : Int)) := Lib.hid (by
                  have h1 := HF1.out
                  have h2 := HGn.out.mu Hc.out Hm.out HOw.out HOl.out
                  by_cases hl0 : 0 ≤ (partC l wd O st k 0).last
                  · have h3 := HG.out.falls Hc.out Hm.out HOw.out HOl.out Hp.out hl0
                    rw [decide_eq_true hl0, if_pos rfl]
                    rw [hRd] at h3
                    omega
                  · have h3 := (HG.out.stays Hc.out Hm.out HOw.out HOl.out Hp.out (by rw [hRd]; omega)).1
                    have h4 : muC l (partC l wd O st k 0) = muC l st := by unfold muC; rw [← hRd, h3]
                    rw [decide_eq_false hl0, if_neg (by simp), h4]
                    omega)
                clear hR hRd HG
                generalize partC l wd O st k 0 = st2 at *
                go_wp2_with fail
                go_roundg (F - 1)
                case measure => omega
                case rel => exact ⟨st2, _, rfl, hX8, HA, HP, HGn, HSn, HFn⟩
              have hkO : k < O.length := by rw [HOn.out]; exact hlk
              obtain ⟨ho1, ho2⟩ := oF_lt HOw.out hkO
              have hk144 : k < 144 := by omega
              have hkN : k < N := by omega
              have cO := HO8.out.cell (i := k) (by simp; omega)
              have eO : gi (O ++ [-1]) k = (oF O k : Int) := by
                rw [← ho2]; unfold gi; rw [List.getElem?_append_left hkO]
              rw [gi_def, eO] at cO
              have zO := HO8.out.slot
              have Hrow : Hid (partC l wd O st k l.length = partC l wd O st (k + 1) 0) := Lib.hid (partC_row l wd O st k)
              have HGp : Hid (∀ j, j ≤ l.length → Good l wd ht m O p (partC l wd O st k j)) := Lib.hid (fun j hj => HG.out.part Hc.out Hm.out HOw.out HOl.out Hp.out (.inl hlk) hj)
              have Hsu : Hid (∀ j, partC l wd O st k (j + 1) = relaxC l wd O (partC l wd O st k j) (k, j)) := Lib.hid (fun j => partC_succ l wd O st k j)
              clear ho2 eO
              generalize hoi : oF O k = oi at *
              have Hoi := Lib.hid hoi
              clear hoi
              obtain ⟨wb, rfl⟩ : ∃ wb : World, wb = wr := ⟨_, rfl⟩
              go_wp2_with fail
              refine (f93_c k wd w.heap.size _ hw1 hw2 hk144 g0 hz).mono ?_
              rintro e w9 ⟨rfl, hX9⟩
              have hX49 := hX8.trans' hX9
              have HA9 := Lib.hid (HA.out.ext hX9)
              have HP9 := Lib.hid (HP.out.ext hX9)
              have hnri := Hnear.out oi ho1 k hk144
              clear cO g0 hz
              go_wp2_with fail
              go_loopw [19, 93] (fun v19 i wr => ∃ j : Nat, j ≤ l.length ∧ i = .int .i64 j ∧ v19 = .bool (decide (0 ≤ (partC l wd O st k j).last)) ∧ Ext w4 wr ∧ Hid (OwnG wr 3 w4.heap.size gA l.length l.length (partC l wd O st k j).at_) ∧ Hid (OwnP wr w4.heap.size gB l.length (partC l wd O st k j).by_)) (fun _ i _ => l.length - (intOf i).toNat)
              case atStart => exact ⟨0, Nat.zero_le _, rfl, rfl, hX49, HA9, HP9⟩
              case round =>
                obtain ⟨j, hj, rfl, rfl, hX10, HA, HP⟩ := hrel
                have hE10 := hE4.trans' hX10
                by_cases hlj : j < l.length
                case neg =>
                  obtain rfl : j = l.length := by omega
                  rw [Hrow.out] at HA HP ⊢
                  go_wp2_with fail
                  go_roundw
                  case rel => exact ⟨k + 1, by omega, by go_num, rfl, hX10, HA, HP⟩
                  case measure => simp [intOf]; omega
                have hGj := HGp.out j hj
                have bi := And.intro (hGj.lo Hc.out Hm.out HOw.out HOl.out ho1) (hGj.hi Hc.out Hm.out ho1)
                have bj := And.intro (hGj.lo Hc.out Hm.out HOw.out HOl.out hlj) (hGj.hi Hc.out Hm.out hlj)
                have di := Hdb.out k hkN oi ho1
                have dj := Hdb.out k hkN j hlj
                have Hs1 := Lib.hid (Hsu.out j)
                have Hr1 : Hid (¬ gi (partC l wd O st k j).at_ oi - dC l wd k oi + dC l wd k j < gi (partC l wd O st k j).at_ j → relaxC l wd O (partC l wd O st k j) (k, j) = partC l wd O st k j) := Lib.hid (fun h => relaxC_no (by unfold newC; rw [Hoi.out]; exact h))
                have Hr2 : Hid (gi (partC l wd O st k j).at_ oi - dC l wd k oi + dC l wd k j < gi (partC l wd O st k j).at_ j → relaxC l wd O (partC l wd O st k j) (k, j) = ⟨(partC l wd O st k j).at_.set j (gi (partC l wd O st k j).at_ oi - dC l wd k oi + dC l wd k j), (partC l wd O st k j).by_.set j ((oi : Int), (k : Int)), j⟩) := Lib.hid (fun h => by
                  have := relaxC_yes (l := l) (wd := wd) (O := O) (st := partC l wd O st k j) (s := (k, j)) (by unfold newC; rw [Hoi.out]; exact h)
                  unfold newC at this
                  rw [Hoi.out] at this
                  exact this)
                have HLa := Lib.hid hGj.la
                have HLb := Lib.hid hGj.lb
                have hnrj := Hnear.out j hlj k hk144
                have Ci := Lib.hid (fun W => f87_c l[oi] (pxx wd k) (pxy wd k) W hnri)
                have Cj := Lib.hid (fun W => f87_c l[j] (pxx wd k) (pxy wd k) W hnrj)
                rw [sv_def, ← dC_in ho1] at Ci
                rw [sv_def, ← dC_in hlj] at Cj
                obtain ⟨b1, o1, e1, hb1, hcx, hcy, hcw⟩ := hl.ext hE10 j hlj
                subst e1
                have Hsi : Hid (∀ W, Ext w W → b1 < W.heap.size ∧ W.cell? ⟨b1, o1 + oi * 3, none⟩ = some (.int .i64 l[oi].x) ∧ W.cell? ⟨b1, o1 + oi * 3 + 1, none⟩ = some (.int .i64 l[oi].y) ∧ W.cell? ⟨b1, o1 + oi * 3 + 2, none⟩ = some (.int .i64 l[oi].w)) := Lib.hid (fun W hW => by
                  obtain ⟨b2, o2, e2, hb2, h1, h2, h3⟩ := hl.ext hW oi ho1
                  simp only [Option.some.injEq, Addr.mk.injEq, and_true] at e2
                  obtain ⟨rfl, rfl⟩ := e2
                  exact ⟨hb2, h1, h2, h3⟩)
                clear hGj hnrj
                generalize partC l wd O st k j = P at *
                generalize dC l wd k oi = Di at *
                generalize dC l wd k j = Dj at *
                generalize l[oi].x = xi at *
                generalize l[oi].y = yi at *
                generalize l[oi].w = wi at *
                generalize l[j].x = xj at *
                generalize l[j].y = yj at *
                generalize l[j].w = wj at *
                have hXA := ext_alloc wr (.cells #[.int .i64 xj, .int .i64 yj, .int .i64 wj] 31)
                have HT := Lib.hid (BlkC.new wr #[.int .i64 xj, .int .i64 yj, .int .i64 wj] 31)
                go_wp2_with fail
                generalize hwA : (wr.alloc (.cells #[.int .i64 xj, .int .i64 yj, .int .i64 wj] 31)) = wA at *
                clear hwA hcx hcy hcw
                have hXAA := hX10.trans' hXA
                have hEA := hE4.trans' hXAA
                have HA2 := Lib.hid (HA.out.ext hXA)
                have HP2 := Lib.hid (HP.out.ext hXA)
                obtain ⟨hb2, q1, q2, q3⟩ := Hsi.out _ hEA
                have t0 := HT.out.cellv 0 (v := .int .i64 xj) rfl
                have t1 := HT.out.cellv 1 (v := .int .i64 yj) rfl
                have t2 := HT.out.cellv 2 (v := .int .i64 wj) rfl
                have tl := HT.out.lt
                have ca := HA2.out.cell (i := oi) (by rw [HLa.out]; exact ho1)
                have za := HA2.out.slot
                rw [gi_def] at ca
                generalize hgA : gi P.at_ oi = A at *
                generalize hgB' : gi P.at_ j = B at *
                have HgB := Lib.hid hgB'
                clear hgA hgB'
                have Ci' := Lib.hid (fun x' : GW wA => Ci.out x'.world)
                have Cj' := Lib.hid (fun x' : GW wA => Cj.out x'.world)
                refine wp_region_ext (by kernel_rfl) (by kernel_rfl) ?_
                repeat (go_big_quiet_step (fail))
                go_big_quiet_step ((go_at_call 87; exact quiet_ext (Ci'.out _)))
                repeat (go_big_quiet_step (fail))
                go_big_quiet_step ((go_at_call 87; exact quiet_ext (Cj'.out _)))
                repeat (go_big_quiet_step (fail))
                refine wpQuiet_nil ?_
                intro w11 hX11
                have hX411 := hXAA.trans' hX11
                have HA3 := Lib.hid (HA2.out.ext hX11)
                have HP3 := Lib.hid (HP2.out.ext hX11)
                have cb := HA3.out.cell (i := j) (by rw [HLa.out]; exact hlj)
                rw [gi_def, HgB.out] at cb
                have za3 := HA3.out.slot
                clear ca za t0 t1 t2 tl q1 q2 q3 hb2
                by_cases hcd : A - Di + Dj < B
                case neg =>
                  have hd : decide (A - Di + Dj < B) = false := decide_eq_false hcd
                  have HPj : Hid (partC l wd O st k (j + 1) = P) := Lib.hid (by rw [Hs1.out]; exact Hr1.out (by omega))
                  clear hcd Hr1 Hr2
                  go_wp2_with fail
                  go_roundw
                  case rel => exact ⟨j + 1, by omega, by go_num, by rw [HPj.out], hX411, by rw [HPj.out]; exact HA3, by rw [HPj.out]; exact HP3⟩
                  case measure => simp [intOf]; omega
                have hd : decide (A - Di + Dj < B) = true := decide_eq_true hcd
                have HPj : Hid (partC l wd O st k (j + 1) = ⟨P.at_.set j (A - Di + Dj), P.by_.set j ((oi : Int), (k : Int)), j⟩) := Lib.hid (by rw [Hs1.out]; exact Hr2.out hcd)
                have fA := HA3.out.froz j
                obtain ⟨cP1, cP2⟩ := HP3.out.cell (i := j) (by rw [HLb.out]; exact hlj)
                have fP1 := HP3.out.froz (j * 2)
                have fP2 := HP3.out.froz (j * 2 + 1)
                have zP := HP3.out.slot
                have HA8 := Lib.hid (((HA3.out.store j (A - Di + Dj)).other (g' := gB) (fun e => hAB e.symm) (j * 2) (.int .i64 (oi : Int))).other (g' := gB) (fun e => hAB e.symm) (j * 2 + 1) (.int .i64 (k : Int)))
                have HP8 := Lib.hid ((HP3.out.other (g' := gA) hAB j (.int .i64 (A - Di + Dj))).store (i := j) (by rw [HLb.out]; exact hlj) (oi : Int) (k : Int))
                have hX8 := ((hX411.setCell (p := ⟨gA, j, none⟩) hgAB.1 (.int .i64 (A - Di + Dj))).setCell (p := ⟨gB, j * 2, none⟩) hgAB.2 (.int .i64 (oi : Int))).setCell (p := ⟨gB, j * 2 + 1, none⟩) hgAB.2 (.int .i64 (k : Int))
                have hl0 : decide (0 ≤ (j : Int)) = true := decide_eq_true (by omega)
                clear hcd Hr1 Hr2
                generalize hcp1 : (gp P.by_ j).1 = u1 at *
                generalize hcp2 : (gp P.by_ j).2 = u2 at *
                clear hcp1 hcp2
                go_wp2_with fail
                go_roundw
                case rel => exact ⟨j + 1, by omega, by go_num, by rw [HPj.out]; show Value.bool true = Value.bool (decide (0 ≤ (j : Int))); rw [hl0], hX8, by rw [HPj.out]; exact HA8, by rw [HPj.out]; exact HP8⟩
                case measure => simp [intOf]; omega
end Go.Proofs.Ytodlbgncdggimaa
