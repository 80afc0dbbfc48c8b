/- Contracts of layer 6: exact rows. -/
import Derived.Test.YtaidoaggmllcfaaT26
namespace Go.Proofs.Ytaidoaggmllcfaa
open Go.RowKit
attribute [local go_sem] GW.cell

theorem info46 : (Try.prog.info? 46).map (fun i => (i.zero, i.size, i.bytes)) = some (some (.agg #[.int .i64 0, .int .i64 0]), 2, 16) := by kernel_rfl
theorem info91 : (Try.prog.info? 91).map (fun i => (i.zero, i.size, i.bytes)) = some (some (.slice none 0 0), 1, 24) := by kernel_rfl
theorem infoS91 : InfoOk Try.prog 91 (.slice none 0 0) 1 24 := info_parts info91
theorem info46' : InfoOk Try.prog 46 (.agg #[.int .i64 0, .int .i64 0]) 2 16 := info_parts info46

theorem Push.rats {T0 : TypeId} {w w' : World} {x v v' : Value} (h : Push w x T0 v v' w') {a : Option Addr} {l : List Rat} (hl : Rats w a l) (hne : ∀ b o s, a = some ⟨b, o, s⟩ → some b ≠ v.ownBlock) : Rats w' a l := fun j hj => by
  obtain ⟨b, off, ha, hb, hc, hd⟩ := hl j hj
  refine ⟨b, off, ha, ?_, (h.cell hb (hne b off none ha)).trans hc, (h.cell hb (hne b off none ha)).trans hd⟩
  have := h.size; omega

/-- k rows of fractions of the call's own, each not empty -/
def OutR (W : World) (base : Nat) (v : Value) (k : Nat) (R : Nat → List Rat) : Prop :=
  ∃ (A : Nat → Option Addr) (C : Nat → Nat), W.ownsRow base 91 1 v k ((List.range k).map fun i => .slice (A i) (R i).length (C i)) ∧ ∀ i, i < k → 0 < (R i).length ∧ Rats W (A i) (R i) ∧ ∀ b o s, A i = some ⟨b, o, s⟩ → some b ≠ v.ownBlock
theorem OutR.nil (W : World) (base : Nat) (R : Nat → List Rat) : OutR W base (.slice none 0 0) 0 R := ⟨fun _ => none, fun _ => 0, World.ownsRow_nil _ _ _ _, fun i hi => by omega⟩
theorem OutR.ext {W W' : World} {base k : Nat} {v : Value} {R : Nat → List Rat} (h : OutR W base v k R) (hE : Ext W W') : OutR W' base v k R := by
  obtain ⟨A, C, h1, h2⟩ := h
  exact ⟨A, C, row_ext h1 hE, fun i hi => ⟨(h2 i hi).1, (h2 i hi).2.1.ext hE, (h2 i hi).2.2⟩⟩
theorem own_block_lt {W : World} {base k size : Nat} {T : TypeId} {v : Value} {xs : List Value} (h : W.ownsRow base T size v k xs) {g : Nat} (hg : W.heap.size ≤ g) : some g ≠ v.ownBlock := by
  rcases h.2 with ⟨rfl, _⟩ | ⟨g2, cap, cur, rfl, hb, hg2, _⟩
  · simp [Value.ownBlock]
  · intro e
    have := (Array.getElem?_eq_some_iff.1 hg2).1
    simp [Value.ownBlock] at e; omega
theorem OutR.push {W0 w1 w' : World} {base Bn k n c : Nat} {v v' : Value} {R : Nat → List Rat} {a : Option Addr} {A : Nat → Option Addr} {C : Nat → Nat} (h1 : W0.ownsRow base 91 1 v k ((List.range k).map fun i => .slice (A i) (R i).length (C i)))
    (h2 : ∀ i, i < k → 0 < (R i).length ∧ Rats W0 (A i) (R i) ∧ ∀ b o s, A i = some ⟨b, o, s⟩ → some b ≠ v.ownBlock) (hE : Ext W0 w1) (hrow : w1.ownsRow Bn 46 2 (.slice a n c) n (ratV (R k))) (hB : W0.heap.size ≤ Bn) (hn : (R k).length = n) (h0 : 0 < n)
    (hP : Push w1 (.slice a n c) 91 v v' w') (hown : w'.ownsRow base 91 1 v' (k + 1) (((List.range k).map fun i => .slice (A i) (R i).length (C i)) ++ [.slice a n c])) : OutR w' base v' (k + 1) R := by
  obtain ⟨g, cap, hv, hbg, hgl⟩ := ownsRow_form hrow h0
  injection hv with hv1 hv2 hv3
  subst hv1
  have hnew : some g ≠ v.ownBlock := own_block_lt h1 (by omega)
  refine ⟨fun i => if i = k then some ⟨g, 0, none⟩ else A i, fun i => if i = k then c else C i, ?_, fun i hi => ?_⟩
  · have e : ((List.range (k + 1)).map fun i => Value.slice (if i = k then some ⟨g, 0, none⟩ else A i) (R i).length (if i = k then c else C i)) = ((List.range k).map fun i => .slice (A i) (R i).length (C i)) ++ [.slice (some ⟨g, 0, none⟩) n c] := by
      rw [List.range_succ, List.map_append, List.map_singleton, if_pos rfl, if_pos rfl, hn]
      congr 1
      apply List.map_congr_left
      intro i hi
      have := List.mem_range.1 hi
      rw [if_neg (by omega), if_neg (by omega)]
    rw [e]; exact hown
  · by_cases e : i = k
    · subst e
      obtain ⟨a2, c2, ha2, hr2⟩ := rats_of_row hrow
      injection ha2 with ha2 _ _
      subst ha2
      simp only [if_true]
      refine ⟨by omega, hP.rats hr2 (fun b o s hb => ?_), fun b o s hb => ?_⟩
      · injection hb with hb; injection hb with hb1 _ _; subst hb1; exact hnew
      · injection hb with hb; injection hb with hb1 _ _; subst hb1; exact hP.far hgl hnew
    · simp only [e, if_false]
      obtain ⟨g1, g2, g3⟩ := h2 i (by omega)
      refine ⟨g1, hP.rats (g2.ext hE) g3, fun b o s hb => ?_⟩
      obtain ⟨b', o', hb', hlt, _⟩ := (g2.ext hE) 0 g1
      have hbb := g3 b o s hb
      rw [hb] at hb'
      injection hb' with hb'; injection hb' with hb1 _ _; subst hb1
      exact hP.far hlt hbb
theorem OutR.read {W : World} {base k : Nat} {v : Value} {R : Nat → List Rat} (h : OutR W base v k R) : ∃ a c, v = .slice a k c ∧ RatT W a ((List.range k).map R) := by
  obtain ⟨A, C, h1, h2⟩ := h
  rcases h1.2 with ⟨rfl, h0⟩ | ⟨g, cap, cur, rfl, hb, hg, _⟩
  · exact ⟨none, 0, by rw [h0], fun j hj => by simp at hj; omega⟩
  · refine ⟨_, cap, rfl, fun j hj => ?_⟩
    have hj' : j < k := by simpa using hj
    have hc := row_cell h1 (j := j) (u := .slice (A j) (R j).length (C j)) (by simp [hj'])
    refine ⟨g, 0, A j, C j, rfl, (Array.getElem?_eq_some_iff.1 hg).1, ?_, ?_⟩
    · rw [Nat.zero_add]; simpa using hc
    · simpa using (h2 j hj').2.1

/-- a row of the exact fit -/
def mx1 (r : Int) : Int := if 1 < r then r else 1
def exQ (t : Tbl) (l : List Int) (i j : Nat) : Rat := ⟨ratN (tg t i j * gi l i) (mx1 (sm (row t i))), ratD (tg t i j * gi l i) (mx1 (sm (row t i)))⟩
def exTo (t : Tbl) (l : List Int) (i q : Nat) : List Rat := (List.range q).map (exQ t l i)
theorem exTo_succ (t : Tbl) (l : List Int) (i q : Nat) : exTo t l i (q + 1) = exTo t l i q ++ [exQ t l i q] := by simp [exTo, List.range_succ]
def exT (t : Tbl) (l : List Int) : List (List Rat) := (List.range t.length).map fun i => exTo t l i (row t 0).length
def exV (t : Tbl) (l : List Int) : List (List Rat) := if rowsOk t l then exT t l else []
/-- what a call hands back that makes rows of fractions and an error -/
def RetRR (T : List (List Rat)) (err : Int) (w : World) (e : Ending) (w' : World) : Prop := ∃ a c, e = .returned (.tuple #[.slice a T.length c, .int .i64 err]) ∧ RatT w' a T ∧ Ext w w'
theorem retRR_nil {w w' : World} {e : Int} (hE : Ext w w') : RetRR [] e w (.returned (.tuple #[.slice none 0 0, .int .i64 e])) w' := ⟨none, 0, rfl, fun j hj => by simp at hj, hE⟩
theorem sm_bd5 {n m : Nat} {t : Tbl} (h : TOk n m 0 1000000 t) {i : Nat} (hi : i < n) : 0 ≤ sm (row t i) ∧ sm (row t i) ≤ 5000000 := by
  have hc := h.cols i hi
  have := smTo_bd (l := row t i) (M := 1000000) (fun j hj => h.bd i j hi (by omega)) (row t i).length (Nat.le_refl _)
  have := h.m5
  unfold sm; omega
theorem mx1_bd {r : Int} (h : 0 ≤ r ∧ r ≤ 5000000) : 1 ≤ mx1 r ∧ mx1 r ≤ 5000000 := by unfold mx1; split <;> omega
theorem mass_num {x y : Int} (h : 0 ≤ x ∧ x ≤ 1000000) (k : 0 ≤ y ∧ y ≤ 30) : 0 ≤ x * y ∧ x * y ≤ 30000000 := by
  have h1 := Int.mul_nonneg h.1 k.1
  have h2 := Int.mul_le_mul h.2 k.2 k.1 (by omega)
  exact ⟨h1, by omega⟩

set_option maxRecDepth 20000 in
set_option maxHeartbeats 8000000 in
theorem f46_c (a b : Option Addr) (n c m2 c2 : Nat) (t : Tbl) (l : List Int) (w : World) (hl : Table w a t) (hn : t.length = n) (hlen : n ≤ 1000000) (hin : ∀ j, (hj : j < t.length) → t[j].length ≤ 1000000) (hb : Ints w b l) (hm : l.length = m2) (hlen2 : m2 ≤ 1000000) :
    Calls Try.prog 46 #[.slice a n c, .slice b m2 c2] w (RetRR (exV t l) (errOf (rowsOk t l)) w) := by
  have C1 := f22_c a b n c m2 c2 t l w hl hn hlen hin hb hm hlen2
  cases hok : rowsOk t l with
  | false =>
    rw [show exV t l = [] by unfold exV; rw [hok]; rfl]
    rw [hok] at C1
    have C1 := Lib.hid C1
    clear hok
    generalize fitRowsV t l = FV at *
    go_enter Try.func46, Try.ntmps46
    go_wp2_with fail
    refine C1.out.mono ?_
    rintro e w1 hR
    obtain ⟨a3, c3, rfl, _, hE1⟩ := hR.open_
    clear hR
    go_wp2_with fail
    go_ret2
    exact retRR_nil hE1
  | true =>
    rw [show exV t l = exT t l by unfold exV; rw [if_pos hok]]
    rw [hok] at C1
    have C1 := Lib.hid C1
    simp only [rowsOk, Bool.and_eq_true, decide_eq_true_eq] at hok
    obtain ⟨hk1, hk2, hk3⟩ := hok
    have H0 := tabB_ok hk1
    have hlb := (massB_ok hk2).2.2
    have C2 := Lib.hid (fun W (h : Ext w W) => f95_c a n c (row t 0).length t W (hl.ext h) (by rw [← hn]; exact H0.weak (by omega)))
    subst hn
    have hn5 := H0.n5
    have hm5 := H0.m5
    have hm1 := H0.m1
    have HT := Lib.hid H0
    have Hlb := Lib.hid hlb
    have Hlm := Lib.hid (hm.symm.trans hk3)
    have Hext : Hid (exT t l = (List.range t.length).map fun i => exTo t l i (row t 0).length) := Lib.hid rfl
    generalize (row t 0).length = M at *
    generalize fitRowsV t l = FV at *
    have hrl : (rowSums t t.length).length = t.length := rowSums_len _ _
    have Hrs := Lib.hid (fun i (h : i < t.length) => gi_rowSums (t := t) h)
    generalize rowSums t t.length = RS at *
    generalize colSums t M t.length 0 = CS at *
    clear hk1 hk2 hk3 H0 hlb
    go_enter Try.func46, Try.ntmps46
    go_wp2_with fail
    refine C1.out.mono ?_
    rintro e w1 hR
    obtain ⟨a3, c3, rfl, _, hE1⟩ := hR.open_
    clear hR C1
    go_wp2_with fail
    refine (C2.out _ hE1).mono ?_
    rintro e w2 ⟨u2, v2, B2, rfl, hu, rfl, _, _, _, hE2'⟩
    obtain ⟨a4, c4, rfl, hRS⟩ := ints_of_row hu
    have hE2 := hE1.trans' hE2'
    have HRS := Lib.hid hRS
    clear hu hE2' hE1 C2 hRS
    rw [hrl]
    go_wp2_with fail
    go_loopw [10, 11, 12, 13, 15, 32, 39] (fun v _ _ _ _ i _ wr => ∃ k : Nat, k ≤ t.length ∧ i = .int .i64 k ∧ Ext w2 wr ∧ Hid (OutR wr w2.heap.size v k (fun i => exTo t l i M))) (fun _ _ _ _ _ i _ _ => t.length - (intOf i).toNat)
    case atStart => exact ⟨0, by omega, rfl, Below.refl _ _, OutR.nil _ _ _⟩
    case round =>
      obtain ⟨k, hk, rfl, hE, H⟩ := hrel
      by_cases hlt : k < t.length
      · obtain ⟨b1, o1, a1, c1, rfl, hb1, hc1, hI1⟩ := hl.ext (hE2.trans' hE) k hlt
        rw [← row_at hlt] at hc1 hI1
        have hmk := HT.out.cols k hlt
        rw [hmk] at hc1
        have Hmk := Lib.hid hmk
        have hsb := sm_bd5 HT.out hlt
        have hlk := Hlb.out k (by have := Hlm.out; omega)
        have hkm : k < m2 := by have := Hlm.out; omega
        have hrk := Hrs.out k hlt
        have Hbk := Lib.hid (fun j (hj : j < M) => HT.out.bd k j hlt hj)
        obtain ⟨wo, rfl⟩ : ∃ wo : World, wo = wr := ⟨_, rfl⟩
        clear hmk
        go_wp2_with fail
        go_loopw [13, 15, 39] (fun v _ i wr => ∃ q : Nat, q ≤ M ∧ i = .int .i64 q ∧ Ext wo wr ∧ Hid (wr.ownsRow wo.heap.size 46 2 v q (ratV (exTo t l k q)))) (fun _ _ i _ => M - (intOf i).toNat)
        case atStart => exact ⟨0, Nat.zero_le _, rfl, Below.refl _ _, World.ownsRow_nil _ _ _ _⟩
        case round =>
          obtain ⟨q, hq, rfl, hE3, Hq⟩ := hrel
          by_cases hlq : q < M
          · have hqt : q < (row t k).length := by rw [Hmk.out]; exact hlq
            have hE4 := hE.trans' hE3
            obtain ⟨b2, o2, rfl, hb2, hc2⟩ := hI1.ext hE3 q hqt
            obtain ⟨b3, o3, rfl, hb3, hc3⟩ := hb.ext (hE2.trans' hE4) k (by rw [hm]; exact hkm)
            obtain ⟨b4, o4, rfl, hb4, hc4⟩ := HRS.out.ext hE4 k (by rw [hrl]; exact hlt)
            rw [← gi_at] at hc2 hc3 hc4
            rw [hrk] at hc4
            have etg : gi (row t k) q = tg t k q := rfl
            rw [etg] at hc2
            have hxb := Hbk.out q hlq
            have hnum := mass_num hxb hlk
            have hmx := mx1_bd hsb
            have C3 := fun W => f76_c (tg t k q * gi l k) (mx1 (sm (row t k))) W ⟨by omega, by omega⟩ ⟨by omega, by omega⟩
            have Hs : Hid (exTo t l k (q + 1) = exTo t l k q ++ [⟨ratN (tg t k q * gi l k) (mx1 (sm (row t k))), ratD (tg t k q * gi l k) (mx1 (sm (row t k)))⟩]) := Lib.hid (exTo_succ t l k q)
            unfold fracV at C3
            generalize hfn : ratN (tg t k q * gi l k) (mx1 (sm (row t k))) = fn at *
            generalize hfd : ratD (tg t k q * gi l k) (mx1 (sm (row t k))) = fd at *
            clear hfn hfd etg hmx
            unfold mx1 at C3
            have C3 := Lib.hid C3
            generalize tg t k q = x at *
            generalize gi l k = y at *
            generalize sm (row t k) = r at *
            by_cases h1r : 1 < r
            · rw [if_pos h1r] at C3
              go_wp2_with fail
              refine wp_region_ext_tail1 13 (by kernel_rfl) (by kernel_rfl) (by rfl) (by rfl) (fun _ _ _ h => h) ?_
              simp only [List.take_succ_cons, List.take_zero, List.drop_succ_cons, List.drop_zero]
              go_simp
              repeat (go_big_quiet_step ((go_at_call 76; exact quiet_ext (C3.out _))))
              refine wpQuiet_nil ?_
              intro w5 hE5
              have hE6 := hE3.trans' hE5
              have hsz6 := hE6.size
              have Hq5 := Lib.hid (row_ext Hq.out hE5)
              clear hc2 hc3 hc4 C3
              obtain ⟨i0, j1, j2, j3, j4⟩ := info46'
              have Hrd := Lib.hid (reads_rats (rats_new1 w5 ⟨fn, fd⟩ 46))
              go_wp2_with (at_builtin; refine wpList_append_any _ rfl (.tmp 43) (.tmp 56) 91 rfl wo.heap.size 46 i0 _ 2 16 Try.underlying91 j1 j2 j3 j4 rfl (by omega) _ q _ rfl (Lib.hid (World.ownsRow.alloc Hq5.out _)).out _ (some ⟨w5.heap.size, 0, none⟩) 1 1 (ratV [⟨fn, fd⟩]) rfl Hrd.out (ratV_one_cell _) (by unfold maxLen; omega) (by omega) (by simp; omega) ?_; intro v' w10 hown hgrow hat; have hE20 := ext_append hE6 Hq5.out (Nat.le_refl _) hgrow; have H20 : Hid (w10.ownsRow wo.heap.size 46 2 v' (q + 1) (ratV (exTo t l k (q + 1)))) := (by rw [Hs.out, ratV_append]; exact hown); clear hat hgrow hown)
              go_roundw
              case rel => exact ⟨q + 1, by omega, by go_num, hE20, H20⟩
              case measure => simp [intOf]; omega
            · rw [if_neg h1r] at C3
              go_wp2_with fail
              refine wp_region_ext_tail1 13 (by kernel_rfl) (by kernel_rfl) (by rfl) (by rfl) (fun _ _ _ h => h) ?_
              simp only [List.take_succ_cons, List.take_zero, List.drop_succ_cons, List.drop_zero]
              go_simp
              repeat (go_big_quiet_step ((go_at_call 76; exact quiet_ext (C3.out _))))
              refine wpQuiet_nil ?_
              intro w5 hE5
              have hE6 := hE3.trans' hE5
              have hsz6 := hE6.size
              have Hq5 := Lib.hid (row_ext Hq.out hE5)
              clear hc2 hc3 hc4 C3
              obtain ⟨i0, j1, j2, j3, j4⟩ := info46'
              have Hrd := Lib.hid (reads_rats (rats_new1 w5 ⟨fn, fd⟩ 46))
              go_wp2_with (at_builtin; refine wpList_append_any _ rfl (.tmp 43) (.tmp 56) 91 rfl wo.heap.size 46 i0 _ 2 16 Try.underlying91 j1 j2 j3 j4 rfl (by omega) _ q _ rfl (Lib.hid (World.ownsRow.alloc Hq5.out _)).out _ (some ⟨w5.heap.size, 0, none⟩) 1 1 (ratV [⟨fn, fd⟩]) rfl Hrd.out (ratV_one_cell _) (by unfold maxLen; omega) (by omega) (by simp; omega) ?_; intro v' w10 hown hgrow hat; have hE20 := ext_append hE6 Hq5.out (Nat.le_refl _) hgrow; have H20 : Hid (w10.ownsRow wo.heap.size 46 2 v' (q + 1) (ratV (exTo t l k (q + 1)))) := (by rw [Hs.out, ratV_append]; exact hown); clear hat hgrow hown)
              go_roundw
              case rel => exact ⟨q + 1, by omega, by go_num, hE20, H20⟩
              case measure => simp [intOf]; omega
          · obtain rfl : q = M := by omega
            have hE4 := hE.trans' hE3
            obtain ⟨a8, c8, rfl⟩ := slice_form Hq.out
            obtain ⟨A, C, h1, h2⟩ := H.out
            have hsz := hE3.size
            have hsz0 := hE.size
            have H1' := Lib.hid (row_ext h1 hE3)
            have H1 := Lib.hid h1
            have H2 := Lib.hid h2
            clear h1 h2 H
            go_wp2_with (at_builtin; refine wpList_push rfl (.tmp 59) (.tmp 61) 41 rfl infoS91 Try.underlying41 rfl rfl rfl (by simp [Value.oneCell']) H1'.out (by omega) (by omega) (by omega) ?_; intro v' w' hown hP)
            go_roundw
            case rel => exact ⟨k + 1, by omega, by go_num, hP.ext hE4 H1'.out (Nat.le_refl _), Lib.hid (OutR.push H1.out H2.out hE3 Hq.out (Nat.le_refl _) (by simp [exTo]) (by omega) hP hown)⟩
            case measure => simp [intOf]; omega
      · obtain rfl : k = t.length := by omega
        obtain ⟨a8, c8, rfl, hRT⟩ := OutR.read H.out
        have HRT := Lib.hid hRT
        clear hRT H
        go_wp2_with fail
        go_ret2
        rw [Hext.out, show errOf true = 0 from rfl]
        exact ⟨a8, c8, by simp, HRT.out, hE2.trans' hE⟩

end Go.Proofs.Ytaidoaggmllcfaa
