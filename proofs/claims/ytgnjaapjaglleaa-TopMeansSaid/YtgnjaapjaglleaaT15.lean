/- Contracts of layer 7: sorted numbers of the reference. -/
import Derived.RegionTactic
import Derived.BigRegion
import Derived.Test.YtgnjaapjaglleaaT14
import Derived.Test.YtgnjaapjaglleaaP11
namespace Go.Proofs.Ytgnjaapjaglleaa
open Go.RowKit
attribute [local go_sem] GW.cell

theorem insAt_end (S : List Int) (x : Int) : insAt S x S.length = S ++ [x] := by simp [insAt]
theorem insAt_at (S : List Int) (x : Int) {k : Nat} (hk : k ≤ S.length) (R : List Int) : gi (insAt S x k ++ R) k = x := by
  simp only [gi, insAt]
  rw [List.append_assoc, List.getElem?_append_right (by simp; omega)]
  simp [Nat.min_eq_left hk]
theorem insAt_prev (S : List Int) (x : Int) {k : Nat} (hk : k + 1 ≤ S.length) (R : List Int) : gi (insAt S x (k + 1) ++ R) k = gi S k := by
  simp only [gi, insAt]
  rw [List.append_assoc, List.getElem?_append_left (by simp; omega), List.getElem?_take_of_lt (by omega)]
theorem insAt_swap (S : List Int) (x : Int) {k : Nat} (hk : k + 1 ≤ S.length) (R : List Int) : ((insAt S x (k + 1) ++ R).set (k + 1) (gi S k)).set k x = insAt S x k ++ R := by
  have h1 : k < S.length := hk
  have e1 : insAt S x (k + 1) = S.take k ++ gi S k :: x :: S.drop (k + 1) := by
    unfold insAt
    rw [List.take_succ_eq_append_getElem h1, List.append_assoc]
    simp [gi, h1]
  have e2 : insAt S x k = S.take k ++ x :: gi S k :: S.drop (k + 1) := by
    unfold insAt
    rw [List.drop_eq_getElem_cons h1]
    simp [gi, h1]
  have hl : (S.take k).length = k := by simp; omega
  rw [e1, e2, List.append_assoc, List.append_assoc, List.set_append_right _ _ (by omega), hl, show k + 1 - k = 1 by omega]
  simp only [List.cons_append, List.set_cons_succ, List.set_cons_zero]
  rw [List.set_append_right _ _ (by omega), hl, Nat.sub_self]
  rfl
theorem mapV_set (L : List Int) (k : Nat) (n : Int) : (L.map (Value.int .i64)).set k (.int .i64 n) = (L.set k n).map (.int .i64) := by rw [List.map_set]
theorem mapV_at (L : List Int) {k : Nat} (hk : k < L.length) : (L.map (Value.int .i64))[k]? = some (.int .i64 (gi L k)) := by simp [gi, hk]

set_option maxRecDepth 20000 in
set_option maxHeartbeats 8000000 in
theorem f86_c (a : Option Addr) (n c : Nat) (l : List Int) (w : World) (hl : Ints w a l) (hn : l.length = n) (hlen : n ≤ 1000000) :
    Calls Try.prog 86 #[.slice a n c] w fun e w' => ∃ v, e = .returned v ∧ w'.ownsRow w.heap.size 3 1 v n ((sortI l).map (.int .i64)) ∧ Ext w w' := by
  subst hn
  obtain ⟨i0, hi⟩ := info_parts info3
  have Hi := Lib.hid hi
  clear hi
  have Hrow := Lib.hid (row_empty w 3 1)
  have Hr := Lib.hid (reads_ints (hl.ext (ext_alloc w (.cells #[] 3))))
  go_enter Try.func86, Try.ntmps86
  go_wp2_with (at_builtin; refine wpList_append_any _ rfl (.tmp 6) (.tmp 7) 30 rfl w.heap.size 3 i0 _ 1 8 Try.underlying30 Hi.out.1 Hi.out.2.1 Hi.out.2.2.1 Hi.out.2.2.2 rfl (by omega) (.slice (some ⟨w.heap.size, 0, none⟩) 0 0) 0 [] rfl Hrow.out _ a l.length c (l.map (.int .i64)) rfl Hr.out (by intro u hu; obtain ⟨x, _, rfl⟩ := List.mem_map.1 hu; rfl) (by unfold maxLen; omega) (by omega) (by simp) ?_; intro v1 w1 hown hgrow hat; have hE1 := ext_grow (ext_alloc _ _) Hrow.out (Nat.le_refl _) hgrow; have hown := Lib.hid hown; clear hat hgrow)
  have H1 : Hid (w1.ownsRow w.heap.size 3 1 v1 l.length ((sortI (l.take 0) ++ l.drop 0).map (.int .i64))) := Lib.hid (by
    have e : sortI (l.take 0) ++ l.drop 0 = l := by simp [sortI]
    rw [e]; simpa using hown.out)
  clear hown
  obtain ⟨av, cv, rfl⟩ := slice_form H1.out
  clear Hrow Hr
  go_wp2_with fail
  go_loopw [4, 5] (fun i _ wr => ∃ q : Nat, q ≤ l.length ∧ i = .int .i64 q ∧ Ext w wr ∧ Hid (wr.ownsRow w.heap.size 3 1 (.slice av l.length cv) l.length ((sortI (l.take q) ++ l.drop q).map (.int .i64)))) (fun i _ _ => l.length - (intOf i).toNat)
  case atStart => exact ⟨0, Nat.zero_le _, rfl, hE1, H1⟩
  case round =>
    obtain ⟨wo, rfl⟩ : ∃ wo : World, wo = wr := ⟨_, rfl⟩
    obtain ⟨q, hq, rfl, hE, H⟩ := hrel
    by_cases hlt : q < l.length
    · obtain ⟨g, cap, he, hg1, hg2⟩ := ownsRow_form H.out (by omega)
      simp only [Value.slice.injEq, true_and] at he
      obtain ⟨rfl, rfl⟩ := he
      have hSl : (sortI (l.take q)).length = q := by rw [sortI_length, List.length_take]; omega
      have hpw := Lib.hid (sortI_pw (l.take q))
      have hdr : l.drop q = l[q] :: l.drop (q + 1) := List.drop_eq_getElem_cons hlt
      have Hfin : Hid (∀ L : List Int, L.Pairwise (· ≤ ·) → L.Perm (sortI (l.take q) ++ [l[q]]) → L = sortI (l.take (q + 1))) := Lib.hid (fun L h1 h2 => sortI_eq h1 (by
        rw [List.take_succ_eq_append_getElem hlt]
        exact h2.trans ((sortI_perm _).append (List.Perm.refl _))))
      rw [hdr] at H
      have H2 : Hid (wo.ownsRow w.heap.size 3 1 (.slice (some ⟨g, 0, none⟩) l.length cv) l.length ((insAt (sortI (l.take q)) l[q] q ++ l.drop (q + 1)).map (.int .i64))) := Lib.hid (by
        have e := insAt_end (sortI (l.take q)) l[q]
        rw [hSl] at e
        rw [e, List.append_assoc]
        exact H.out)
      have HSl := Lib.hid hSl
      have hrl : (l.drop (q + 1)).length = l.length - (q + 1) := by simp
      have Hrl := Lib.hid hrl
      clear H hdr hSl hrl
      generalize sortI (l.take q) = S at *
      generalize l[q] = x at *
      generalize hR : l.drop (q + 1) = R at *
      have HR := Lib.hid hR
      clear hR
      go_wp2_with fail
      go_loopw [5] (fun i wr => ∃ k : Nat, k ≤ q ∧ i = .int .i64 k ∧ Ext w wr ∧ g < wr.heap.size ∧ Hid (∀ j, k ≤ j → j < S.length → x ≤ gi S j) ∧ Hid (wr.ownsRow w.heap.size 3 1 (.slice (some ⟨g, 0, none⟩) l.length cv) l.length ((insAt S x k ++ R).map (.int .i64)))) (fun i _ => (intOf i).toNat)
      case atStart => exact ⟨q, Nat.le_refl _, rfl, hE, hg2, fun j h1 h2 => by have := HSl.out; omega, H2⟩
      case round =>
        obtain ⟨k, hk, rfl, hE3, hg3, Hj, H3⟩ := hrel
        have hLl : (insAt S x k ++ R).length = l.length := by rw [List.length_append, insAt_length, HSl.out, Hrl.out]; omega
        have HLl := Lib.hid hLl
        clear hLl
        cases k with
        | zero =>
          have Hn : Hid (insAt S x 0 = sortI (l.take (q + 1))) := Lib.hid (Hfin.out _ (insAt_pw (Nat.zero_le _) hpw.out (fun j hj => by omega) Hj.out) (insAt_perm _ _ _))
          rw [Hn.out] at H3
          go_wp2_with fail
          refine wp_region_ext (by kernel_rfl) (by kernel_rfl) ?_
          repeat (go_big_quiet_step (fail))
          refine wpQuiet_nil ?_
          intro w4 hE4
          have H4 := Lib.hid (row_ext H3.out hE4)
          go_wp2_with fail
          go_roundw
          case rel => exact ⟨q + 1, by omega, by go_num, hE3.trans' hE4, by rw [HR.out]; exact H4⟩
          case measure => simp [intOf]; omega
        | succ p =>
          have hpS : p + 1 ≤ S.length := by rw [HSl.out]; exact hk
          have e1 := insAt_at S x hpS R
          have e2 := insAt_prev S x hpS R
          have c1 : wr.cell? ⟨g, p + 1, none⟩ = some (.int .i64 x) := by
            rw [H3.out.cellAt (p + 1) (by omega), mapV_at _ (by rw [HLl.out]; omega), e1]
          have c2 : wr.cell? ⟨g, p, none⟩ = some (.int .i64 (gi S p)) := by
            rw [H3.out.cellAt p (by omega), mapV_at _ (by rw [HLl.out]; omega), e2]
          have f1 := H3.out.frozenAt (p + 1)
          have f2 := H3.out.frozenAt p
          have Hsw := Lib.hid (insAt_swap S x hpS R)
          clear e1 e2
          by_cases hx : x < gi S p
          · have hd : decide (x < gi S p) = true := by simpa using hx
            have Hj2 : Hid (∀ j, p ≤ j → j < S.length → x ≤ gi S j) := Lib.hid (fun j h1 h2 => by
              rcases Nat.eq_or_lt_of_le h1 with e | e
              · rw [← e]; omega
              · exact Hj.out j e h2)
            generalize gi S p = y at *
            go_wp2_with fail
            refine wp_region_ext (by kernel_rfl) (by kernel_rfl) ?_
            repeat (go_big_quiet_step (fail))
            refine wpQuiet_nil ?_
            intro w4 hE4
            have H4 := Lib.hid (row_ext H3.out hE4)
            have hE5 := hE3.trans' hE4
            have c1 := (hE4.cell' hg3).trans c1
            have c2 := (hE4.cell' hg3).trans c2
            have f1 := (fz_old hE4 hg3 _).trans f1
            have f2 := (fz_old hE4 hg3 _).trans f2
            have hg4 := Nat.lt_of_lt_of_le hg3 hE4.size
            go_wp2_with fail
            go_region
            have H5 := Lib.hid ((H4.out.stored (p + 1) (.int .i64 y)).1.stored p (.int .i64 x)).1
            rw [mapV_set, mapV_set, Hsw.out] at H5
            have H6 := Lib.hid (row_ext H5.out (ext_drew _))
            have hE6 := Ext.trans' ((hE5.setCell (show w.heap.size ≤ g from hg1) (p := ⟨g, p + 1, none⟩) (.int .i64 y)).setCell (show w.heap.size ≤ g from hg1) (p := ⟨g, p, none⟩) (.int .i64 x)) (ext_drew _)
            have hg6 : g < ({ (w4.setCell ⟨g, p + 1, none⟩ (.int .i64 y)).setCell ⟨g, p, none⟩ (.int .i64 x) with drawn := ((w4.setCell ⟨g, p + 1, none⟩ (.int .i64 y)).setCell ⟨g, p, none⟩ (.int .i64 x)).drawn + 1 } : World).heap.size := by
              have h1 : (w4.setCell ⟨g, p + 1, none⟩ (.int .i64 y)).heap.size = w4.heap.size := by simp
              have h2 : ((w4.setCell ⟨g, p + 1, none⟩ (.int .i64 y)).setCell ⟨g, p, none⟩ (.int .i64 x)).heap.size = w4.heap.size := by simp
              show g < ((w4.setCell ⟨g, p + 1, none⟩ (.int .i64 y)).setCell ⟨g, p, none⟩ (.int .i64 x)).heap.size
              omega
            obtain ⟨w7, hw7⟩ : ∃ w7 : World, w7 = ((w4.setCell ⟨g, p + 1, none⟩ (.int .i64 y)).setCell ⟨g, p, none⟩ (.int .i64 x)).drew := ⟨_, rfl⟩
            have hw7' : ({ (w4.setCell ⟨g, p + 1, none⟩ (.int .i64 y)).setCell ⟨g, p, none⟩ (.int .i64 x) with drawn := ((w4.setCell ⟨g, p + 1, none⟩ (.int .i64 y)).setCell ⟨g, p, none⟩ (.int .i64 x)).drawn + 1 } : World) = w7 := hw7.symm
            rw [hw7'] at H6 hE6 hg6
            rw [← hw7]
            clear hw7 hw7' H5 c1 c2 f1 f2
            go_wp2_with fail
            go_roundw
            case rel => exact ⟨p, by omega, by go_num, hE6, hg6, Hj2, H6⟩
            case measure => simp [intOf]
          · have hd : decide (x < gi S p) = false := by simpa using hx
            have Hn : Hid (insAt S x (p + 1) = sortI (l.take (q + 1))) := Lib.hid (Hfin.out _ (insAt_pw hpS hpw.out (fun j hj => Int.le_trans (pw_asc hpw.out (show j ≤ p by omega) hpS) (by omega)) Hj.out) (insAt_perm _ _ _))
            generalize gi S p = y at *
            rw [Hn.out] at H3
            go_wp2_with fail
            refine wp_region_ext (by kernel_rfl) (by kernel_rfl) ?_
            repeat (go_big_quiet_step (fail))
            refine wpQuiet_nil ?_
            intro w4 hE4
            have H4 := Lib.hid (row_ext H3.out hE4)
            clear c1 c2 f1 f2
            go_wp2_with fail
            go_roundw
            case rel => exact ⟨q + 1, by omega, by go_num, hE3.trans' hE4, by rw [HR.out]; exact H4⟩
            case measure => simp [intOf]; omega
    · obtain rfl : q = l.length := by omega
      have H2 : Hid (wo.ownsRow w.heap.size 3 1 (.slice av l.length cv) l.length ((sortI l).map (.int .i64))) := Lib.hid (by
        have h := H.out
        rw [List.take_length, List.drop_length, List.append_nil] at h; exact h)
      clear H
      go_wp2_with fail
      go_ret
      exact ⟨_, rfl, H2.out, hE⟩

theorem f86_i (a : Option Addr) (n c : Nat) (l : List Int) (w : World) (hl : Ints w a l) (hn : l.length = n) (hlen : n ≤ 1000000) :
    Calls Try.prog 86 #[.slice a n c] w (RetI (sortI l) w) :=
  (f86_c a n c l w hl hn hlen).mono fun e w' ⟨v, he, hr, hE⟩ => by
    subst hn
    rw [← sortI_length l] at hr
    obtain ⟨a', c', rfl, hI⟩ := ints_of_row hr
    exact ⟨a', c', he, hI, hE⟩
set_option maxRecDepth 20000 in
set_option maxHeartbeats 8000000 in
theorem f72_c (a : Option Addr) (n c : Nat) (l : List (List Atom)) (r : Nat) (w : World) (hl : Loads w a l) (hn : l.length = n) (hok : OkLoads l) (hr : r < l.length) :
    Calls Try.prog 72 #[.slice a n c, .int .i64 r] w fun e w' => ∃ v, e = .returned v ∧ w'.ownsRow w.heap.size 66 2 v (rankL l r).length (atomV (rankL l r)) ∧ Ext w w' := by
  subst hn
  obtain ⟨i0, hi0⟩ := info_parts info3
  have Hi := Lib.hid hi0
  clear hi0
  have hN := unitsN_bd hok
  have h5 := hok.five
  have h1 := hok.pos
  have Hpl := Lib.hid (fun W (h : Loads W a l) (k : Nat) (hk : (k : Int) < totalL (l[0]?.getD [])) => f70_c a l.length c l k W h rfl hok hk)
  have h10 : 0 < l.length := h1
  have F0 := Lib.hid (hok.fine h10)
  have e0 : l[0]?.getD [] = l[0] := by rw [List.getElem?_eq_getElem (by omega), Option.getD_some]
  rw [e0] at hN
  rw [e0] at Hpl
  have hN1 : (unitsN l : Int) ≤ totalL l[0] ∧ totalL l[0] ≤ (unitsN l : Int) ∧ unitsN l ≤ 180 := by omega
  have HU := Lib.hid (fun k (hk : k < unitsN l) => rankU_take (r := r) hk)
  have HUl := Lib.hid (rankU_length l r)
  have Hcol : Hid (rankL l r = collectL (rankU l r)) := Lib.hid rfl
  clear hN e0 hok
  generalize rankL l r = LL at *
  generalize rankU l r = U at *
  generalize unitsN l = N at *
  have hTb : totalL l[0] ≤ 180 := by omega
  go_enter Try.func72, Try.ntmps72
  go_wp2_with fail
  go_loopw [5, 6] (fun v i wr => ∃ k : Nat, k ≤ N ∧ i = .int .i64 k ∧ Ext w wr ∧ Hid (wr.ownsRow w.heap.size 3 1 v k ((U.take k).map (.int .i64)))) (fun _ i _ => N - (intOf i).toNat)
  case atStart => exact ⟨0, Nat.zero_le _, rfl, Below.refl _ _, World.ownsRow_nil _ _ _ _⟩
  case round =>
    obtain ⟨k, hk, rfl, hE4, H⟩ := hrel
    obtain ⟨b0, o0, a0, c0, rfl, hb0, hc0, hi0'⟩ := hl.ext hE4 0 (by omega)
    simp only [Nat.add_zero] at hc0
    by_cases hlt : k < N
    · have hltT : (k : Int) < totalL l[0] := by omega
      have Hd := Lib.hid (HU.out k hlt)
      go_wp2_with fail
      refine (f69_c a0 _ c0 l[0] _ hi0' rfl F0.out).mono ?_
      rintro e w3 ⟨rfl, hE3⟩
      have hE4 := hE4.trans' hE3
      have H3 := Lib.hid (row_ext H.out hE3)
      clear H
      go_wp2_with fail
      refine (Hpl.out _ (hl.ext hE4) k hltT).mono ?_
      rintro e w5 ⟨a5, c5, rfl, hI5, hE5⟩
      have HPl := Lib.hid (placesL_length l k)
      generalize placesL l k = P at *
      have hE6 := hE4.trans' hE5
      have H6 := Lib.hid (row_ext H3.out hE5)
      clear H3
      go_wp2_with fail
      refine (f86_i a5 P.length c5 P _ hI5 rfl (by rw [HPl.out]; omega)).mono ?_
      rintro e w7 ⟨a7, c7, rfl, hI7, hE7⟩
      have hE8 := hE6.trans' hE7
      have H8 := Lib.hid (row_ext H6.out hE7)
      have HSl : Hid ((sortI P).length = l.length) := Lib.hid (by rw [sortI_length, HPl.out])
      generalize sortI P = SP at *
      obtain ⟨b9, o9, rfl, hb9, hc9⟩ := hI7 r (by rw [HSl.out]; exact hr)
      rw [← gi_at] at hc9
      have hrl : r < SP.length := by rw [HSl.out]; exact hr
      generalize gi SP r = x at *
      have Hn := Lib.hid (reads_ints (ints_new1 w7 x 3 w7.heap.size rfl))
      have hszx := hE8.size
      clear H6
      go_wp2_with (at_builtin; refine wpList_append_any _ rfl (.tmp 15) (.tmp 23) 30 rfl w.heap.size 3 i0 (.int .i64 0) 1 8 Try.underlying30 Hi.out.1 Hi.out.2.1 Hi.out.2.2.1 Hi.out.2.2.2 rfl (by omega) _ k _ rfl (Lib.hid (World.ownsRow.alloc H8.out _)).out _ (some ⟨w7.heap.size, 0, none⟩) 1 1 [.int .i64 x] rfl Hn.out (by simp [Value.oneCell']) (by unfold maxLen; omega) (by omega) (by simp; omega) ?_; intro v' w9 hown hgrow hat; have hE9 := ext_append hE8 H8.out (Nat.le_refl _) hgrow; have H9 : Hid (w9.ownsRow w.heap.size 3 1 v' (k + 1) ((U.take (k + 1)).map (.int .i64))) := (by rw [Hd.out, List.map_append]; exact hown); clear hat hgrow hown)
      go_roundw
      case rel => exact ⟨k + 1, by omega, by go_num, hE9, H9⟩
      case measure => simp [intOf]; omega
    · obtain rfl : k = N := by omega
      have hge : ¬ (k : Int) < totalL l[0] := by omega
      go_wp2_with fail
      refine (f69_c a0 _ c0 l[0] _ hi0' rfl F0.out).mono ?_
      rintro e w3 ⟨rfl, hE3⟩
      have hE4 := hE4.trans' hE3
      have H2 := row_ext H.out hE3
      rw [List.take_of_length_le (by rw [HUl.out]; exact Nat.le_refl _)] at H2
      obtain ⟨ad, cp, rfl, hI⟩ := ints_of_row H2
      have hUl : U.length ≤ 180 := by have := HUl.out; omega
      clear H H2
      go_wp2_with fail
      refine (f71_c ad U.length cp U _ hI rfl (by omega)).mono ?_
      rintro e w9 ⟨v9, rfl, hrow, hE9⟩
      obtain ⟨av, cv, rfl⟩ := slice_form hrow
      have Hrow := Lib.hid hrow
      clear hrow
      go_wp2_with fail
      go_ret
      exact ⟨_, rfl, by rw [Hcol.out]; exact row_base Hrow.out hE4.size, hE4.trans' hE9⟩

end Go.Proofs.Ytgnjaapjaglleaa
