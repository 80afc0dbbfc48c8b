/- slices.Sorted(slices.Values(l)): the iterator, the collecting, the sort. -/
import Derived.OwnWalkIn
import Derived.TacticsInMore
import Derived.LoopNIn
import Derived.LoopIn
import Derived.Shelf.RegionOpen
import Derived.Sort.OwnSortedInts
import Derived.Test.YtgnjaapjaglleaaShelf
import Derived.Test.YtgnjaapjaglleaaT17
namespace Go.Proofs.Ytgnjaapjaglleaa
open Go.RowKit
attribute [local go_sem] GW.cell Oper.semAt_some wide_depth

theorem f85_c (a : Option Addr) (n c : Nat) (w : World) :
    Calls Try.prog 85 #[.slice a n c] w fun e w' => e = .returned (.func (.func 107) #[] #[.pointer (some ⟨w.heap.size, 0, none⟩)]) ∧ w.alloc (.cells #[.slice a n c] 30) = w' := by
  go_enter Try.func85, Try.ntmps85
  go_wp2
  go_ret
  exact ⟨rfl, rfl⟩
theorem ext_grown {a b : World} (h : Ext a b) : a.grownBy b none := ⟨h.os, h.tape, h.output, h.size, fun i hi _ => h.block i hi⟩
def oneI (l : List Int) (k : Nat) : Array Value := #[.int .i64 (gi l k)]
set_option maxRecDepth 100000 in
set_option maxHeartbeats 2000000 in
theorem f107_seq (a : Option Addr) (c : Nat) (l : List Int) (hlen : l.length ≤ 1000000) (B : Nat) :
    SeqN Try.prog 107 #[.pointer (some ⟨B, 0, none⟩)] (oneI l) l.length (fun W => W.cell? ⟨B, 0, none⟩ = some (.slice a l.length c) ∧ B < W.heap.size ∧ Ints W a l) := by
  intro ll J Jx W hJ hJx hK hY h0
  obtain ⟨hc1, hb1, hI1⟩ := hK _ _ h0
  refine callsIn_of_wp Try.func107 rfl trivial ?_ rfl
  simp only [Try.ntmps107, List.size_toArray, List.length_cons, List.length_nil, Nat.reduceAdd, Nat.reduceSub, Array.replicate_succ, Array.replicate_zero, List.push_toArray, List.append_toArray, List.nil_append, List.cons_append]
  gi_wp2
  gi_loopw [7] (fun p wr => ∃ k : Nat, k ≤ l.length ∧ p = .int .i64 k ∧ J k wr)
    (fun p _ => l.length - (intOf p).toNat)
  case atStart => exact ⟨0, by omega, rfl, h0⟩
  case round =>
    obtain ⟨k, hk, rfl, hj⟩ := hrel
    by_cases hlt : k < l.length
    · obtain ⟨hd1, hd2, hI⟩ := hK _ _ hj
      obtain ⟨b, off, rfl, hb, hc⟩ := hI k hlt
      rw [← gi_at] at hc
      obtain ⟨fn, tmps, assign, body, hy, hR⟩ := hY k _ hj hlt
      try simp only [oneI] at hy
      have hR2 := hR.mono (R' := fun e B => ∃ b : Bool, e = .returned (.bool b) ∧ Hid (if b then J (k + 1) B else Jx (k + 1) B)) (by
        rintro e B (⟨rfl, h⟩ | ⟨rfl, h⟩)
        · exact ⟨true, rfl, h⟩
        · exact ⟨false, rfl, h⟩)
      try simp only [oneI] at hR2
      clear hR
      generalize gi l k = x at *
      gi_wp2
      refine hR2.mono ?_
      rintro e W3 ⟨bb, rfl, hbb⟩
      cases bb with
      | true =>
        have hj3 : J (k + 1) W3 := hbb.out
        gi_wp2
        go_roundw
        case rel => exact ⟨k + 1, by omega, by go_num, hj3⟩
        case measure => simp [intOf]; omega
      | false =>
        have hj3 : Jx (k + 1) W3 := hbb.out
        gi_wp2
        refine bodyPost_ret (results_none rfl _ _ _) rfl ?_
        exact ⟨⟨_, rfl⟩, .inr ⟨k + 1, by omega, hj3⟩⟩
    · obtain rfl : k = l.length := by omega
      gi_wp2
      go_end0
      exact ⟨⟨_, rfl⟩, .inl hj⟩


set_option maxRecDepth 100000 in
set_option maxHeartbeats 4000000 in
theorem f112_c (a : Option Addr) (c : Nat) (l : List Int) (hlen : l.length ≤ 1000000) (B : Nat) (w : World) (hB : Boxed w B 30 (.slice a l.length c)) (hl : Ints w a l) :
    Calls Try.prog 112 #[.slice none 0 0, .func (.func 107) #[] #[.pointer (some ⟨B, 0, none⟩)]] w fun e w' => ∃ v, e = .returned v ∧ w'.ownsRow w.heap.size 3 1 v l.length (l.map (.int .i64)) ∧ Ext w w' := by
  obtain ⟨i0, hi, hz0, hz1, hz2⟩ := info_parts info3
  refine calls_range Try.func112 rfl ?_
  simp only [Try.ntmps112, List.size_toArray, List.length_cons, List.length_nil, Nat.reduceAdd, Nat.reduceSub, Array.replicate_succ, Array.replicate_zero, List.push_toArray, List.append_toArray, List.nil_append, List.cons_append]
  go_wp2_with fail
  have b1 := Boxed.new w 30 (.slice none 0 0)
  have hE0 := ext_alloc w (.cells #[.slice none 0 0] 30)
  refine wp_range (gf := 107) (lb := #[.pointer (some ⟨B, 0, none⟩)]) rfl (enters_of Try.func107 (by kernel_rfl) rfl)
    (f107_seq a c l hlen B) (fun _ => rfl)
    (fun k W => Ext w W ∧ ∃ v, Boxed W w.heap.size 30 v ∧ W.ownsRow (w.heap.size + 1) 3 1 v k ((l.take k).map (.int .i64)))
    (fun _ _ _ => False) ?hI (fun _ _ _ _ _ h _ _ => h) (fun k W h => ⟨(box_ext hB h.1).cell, (box_ext hB h.1).lt, hl.ext h.1⟩)
    ⟨hE0, _, b1, World.ownsRow_nil _ _ _ _⟩
    (fun k => { tmps := #[.slice none 0 0, .func (.func 107) #[] #[.pointer (some ⟨B, 0, none⟩)], .pointer (some ⟨w.heap.size, 0, none⟩), undef, .slice none 0 0, .int .i64 (gi l k), .func (.func 107) #[] #[.pointer (some ⟨B, 0, none⟩)], .int .i64 (gi l k), undef, undef, undef, undef, undef], defers := [] }) ?assign ?body ?done ?stop
  case hI =>
    rintro k X Y row ⟨hE, v, h1, h2⟩ hg hr
    exact ⟨ext_keep hE hg (by simp) hr, v, box_keep h1 hg hr, row_keep h2 hg hr⟩
  case assign =>
    intro l x W K hK
    unfold oneI
    gi_wp2
    exact hK
  case body =>
    rintro l0 k W ⟨hE, v, h1, h2⟩ hk
    have hsz := h1.lt
    have hc1 := h1.cell
    have hf1 := h1.frozen
    have Ht : Hid ((l.take (k + 1)).map (Value.int .i64) = (l.take k).map (Value.int .i64) ++ [.int .i64 (gi l k)]) := Lib.hid (by
      rw [List.take_succ_eq_append_getElem hk, List.map_append, show gi l k = l[k] by simp [gi, hk]]; rfl)
    generalize gi l k = x at *
    gi_wp2_with (gi_at_builtin; (refine wpListIn_append_own _ rfl _ _ 30 rfl (w.heap.size + 1) 3 i0 (.int .i64 0) 1 8 Try.underlying30 hi hz0 hz1 hz2 rfl (by decide) v k _ rfl (h2.alloc _) ⟨W.heap.size, 0, none⟩ 1 1 [.int .i64 x] rfl rfl (cell_one_new _ _ _) (by simp [Value.oneCell']) (by unfold maxLen; omega) (by omega) (by simp; omega) ?_); intro v' w4 hown' hgrow _; obtain ⟨g', cap', rfl⟩ := ownsRow_succ hown'; obtain ⟨hv1, hv2, hr2, hk2, hb2⟩ := h1.appended (n₀ := w.heap.size) (by decide) (row_base h2 (by omega)) (by omega) (by omega) (row_base hown' (by omega)) hgrow; have hc1' := hv1.cell; have hf1' := hv1.frozen; clear hc1 hf1)
    refine ⟨hk2, Below.trans hE hb2, _, hv2, ?_⟩
    rw [Ht.out]
    exact hown'.kept (grownBy_setCell' w4 w.heap.size (.slice (some ⟨g', 0, none⟩) (k + 1) cap')) (.inr (row_far hown' (by omega)).symm)
  case done =>
    rintro D W hD ⟨hE, v, h1, h2⟩ hK
    have hc1 := h1.cell
    go_wp2
    refine ⟨by simp, .inl ⟨_, _, rfl, run_takeDeferred hK, ?_⟩⟩
    rw [List.take_length] at h2
    exact ⟨_, results_tmp rfl _ _ _, v, rfl, row_base (ownsRow_putObj h2 (.deferred none) hK rfl) (by omega), ext_putObj hE (by simp at hD; omega) _⟩
  case stop =>
    rintro D c k W _ _ h _
    exact h.elim


set_option maxHeartbeats 2000000 in
theorem f105_c (a : Option Addr) (c : Nat) (l : List Int) (hlen : l.length ≤ 1000000) (B : Nat) (w : World) (hB : Boxed w B 30 (.slice a l.length c)) (hl : Ints w a l) :
    Calls Try.prog 105 #[.func (.func 107) #[] #[.pointer (some ⟨B, 0, none⟩)]] w fun e w' => ∃ v, e = .returned v ∧ w'.ownsRow w.heap.size 3 1 v l.length (l.map (.int .i64)) ∧ Ext w w' := by
  go_enter Try.func105, Try.ntmps105
  go_wp2_with fail
  refine (f112_c a c l hlen B _ hB hl).mono ?_
  rintro e w1 ⟨v, rfl, hrow, hE⟩
  obtain ⟨av, cv, rfl⟩ := slice_form hrow
  go_wp2_with fail
  go_ret
  exact ⟨_, rfl, hrow, hE⟩
theorem f106_c {w : World} {base n : Nat} {v : Value} {L : List Int} (h : w.ownsRow base 3 1 v n (L.map (.int .i64))) (hlen : L.length ≤ 1000000) :
    Calls Try.prog 106 #[v] w fun e w' => e = .returned (.tuple #[]) ∧ w'.ownsRow base 3 1 v n ((sortI L).map (.int .i64)) ∧ w.grownBy w' v.ownBlock := by
  have hn : L.length = n := by have := h.1; simpa using this
  subst hn
  rcases h.2 with ⟨rfl, h0⟩ | ⟨g, cap, cur, rfl, hb, hg, h1, h2, h3, h4⟩
  · have hL : L = [] := List.eq_nil_of_length_eq_zero h0
    subst hL
    exact (slices_Sort_int_none none 0 w).mono fun e w' ⟨he, hw⟩ => ⟨he, by rw [hw, show sortI [] = [] by simp [sortI]]; exact World.ownsRow_nil _ _ _ _, by rw [hw]; exact ⟨rfl, rfl, rfl, Nat.le_refl _, fun _ _ _ => rfl⟩⟩
  · refine (slices_Sort_int g 0 cap L w (holds_of_blockI hg (by simpa using h4)) (Array.getElem?_eq_some_iff.1 hg).1 (by omega)).mono ?_
    rintro e w' ⟨he, k, os, rfl⟩
    refine ⟨he, ?_, grownBy_sortedI _⟩
    exact ownsRow_sortedI (sortI_length L) hb hg h1 h2 h3
set_option maxHeartbeats 2000000 in
theorem f84_c (a : Option Addr) (c : Nat) (l : List Int) (hlen : l.length ≤ 1000000) (B : Nat) (w : World) (hB : Boxed w B 30 (.slice a l.length c)) (hl : Ints w a l) :
    Calls Try.prog 84 #[.func (.func 107) #[] #[.pointer (some ⟨B, 0, none⟩)]] w (RetI (sortI l) w) := by
  go_enter Try.func84, Try.ntmps84
  go_wp2_with fail
  refine (f105_c a c l hlen B _ hB hl).mono ?_
  rintro e w1 ⟨v, rfl, hrow, hE⟩
  obtain ⟨av, cv, rfl⟩ := slice_form hrow
  have C := f106_c hrow hlen
  go_wp2_with fail
  refine C.mono ?_
  rintro e w2 ⟨rfl, hrow2, hg⟩
  have hE2 := ext_grow hE hrow (Nat.le_refl _) hg
  go_wp2_with fail
  obtain ⟨ad, cp, he, hI⟩ := ints_of_row hrow2
  have h2 : RetI (sortI l) w (.returned (.slice av l.length cv)) w2 := ⟨ad, cp, by rw [he], hI, hE2⟩
  clear he hI hrow2 hrow C hg
  go_ret
  exact h2

end Go.Proofs.Ytgnjaapjaglleaa