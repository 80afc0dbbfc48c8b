/- Contracts of the line: the places of two loads. -/
import Derived.Sort.OwnSortedInts
import Derived.Test.YtfhgnmijigdlmaaShelf
import Derived.Test.YtfhgnmijigdlmaaT4
namespace Go.Proofs.Ytfhgnmijigdlmaa
open Go.RowKit Go.Sort
attribute [local go_sem] GW.cell
theorem f113_c {w : World} {base n : Nat} {v : Value} {L : List Int} (h : w.ownsRow base 3 1 v n (L.map (.int .i64))) (hlen : L.length ≤ 1000000) :
    Calls Try.prog 113 #[v] w fun e w' => e = .returned (.tuple #[]) ∧ w'.ownsRow base 3 1 v n ((sortI L).map (.int .i64)) ∧ w.grownBy w' v.ownBlock := by
  have hn : L.length = n := by have := h.1; simpa using this
  subst hn
  rcases h.2 with ⟨rfl, h0⟩ | ⟨g, cap, cur, rfl, hb, hg, h1, h2, h3, h4⟩
  · have hL : L = [] := List.eq_nil_of_length_eq_zero h0
    subst hL
    exact (slices_Sort_int_none none 0 w).mono fun e w' ⟨he, hw⟩ => ⟨he, by rw [hw, show sortI [] = [] by simp [sortI]]; exact World.ownsRow_nil _ _ _ _, by rw [hw]; exact ⟨rfl, rfl, rfl, Nat.le_refl _, fun _ _ _ => rfl⟩⟩
  · refine (slices_Sort_int g 0 cap L w (holds_of_blockI hg (by simpa using h4)) (Array.getElem?_eq_some_iff.1 hg).1 (by omega)).mono ?_
    rintro e w' ⟨he, k, os, rfl⟩
    refine ⟨he, ?_, grownBy_sortedI _⟩
    exact ownsRow_sortedI (sortI_length L) hb hg h1 h2 h3
theorem row_cut {W : World} {base g n cap : Nat} {e : TypeId} {L : List Int} (h : W.ownsRow base e 1 (.slice (some ⟨g, 0, none⟩) n cap) n (L.map (.int .i64))) {m : Nat} (hm : m ≤ n) : W.ownsRow base e 1 (.slice (some ⟨g, 0, none⟩) m cap) m ((L.take m).map (.int .i64)) := by
  have hl : L.length = n := by have := h.1; simpa using this
  refine ⟨by simp; omega, ?_⟩
  rcases h.2 with ⟨e, _⟩ | ⟨g', cap', cur, e, hb, hg, h1, h2, h3, h4⟩
  · simp at e
  · simp at e
    obtain ⟨rfl, rfl⟩ := e
    refine .inr ⟨g, cap, cur, rfl, hb, hg, by omega, h2, h3, ?_⟩
    have : cur.toList.take (m * 1) = (cur.toList.take (n * 1)).take m := by rw [List.take_take]; congr 1; omega
    rw [this, h4, List.map_take]
theorem f114_c {w : World} {base n : Nat} {v : Value} {L : List Int} (h : w.ownsRow base 3 1 v n (L.map (.int .i64))) (hlen : L.length ≤ 1000000) :
    Calls Try.prog 114 #[v] w fun e w' => ∃ v', e = .returned v' ∧ w'.ownsRow base 3 1 v' (Lib.compact L).length ((Lib.compact L).map (.int .i64)) ∧ w.grownBy w' v.ownBlock := by
  have hn : L.length = n := by have := h.1; simpa using this
  subst hn
  rcases h.2 with ⟨rfl, h0⟩ | ⟨g, cap, cur, rfl, hb, hg, h1, h2, h3, h4⟩
  · have hL : L = [] := List.eq_nil_of_length_eq_zero h0
    subst hL
    exact (slices_Compact_int_empty none 0 w).mono fun e w' ⟨he, hw⟩ => ⟨_, he, by rw [hw, show Lib.compact ([] : List Int) = [] by rfl]; exact World.ownsRow_nil _ _ _ _, by rw [hw]; exact ⟨rfl, rfl, rfl, Nat.le_refl _, fun _ _ _ => rfl⟩⟩
  · refine (slices_Compact_int g 0 cap L w (holds_of_blockI hg (by simpa using h4)) (by omega) h1).mono ?_
    rintro e w' ⟨he, k, rfl⟩
    have hc := compact_le L
    have eg : ∀ W : World, W = grow W #[] := fun W => by simp [grow]
    have hl : (Lib.compact L ++ List.replicate (L.length - (Lib.compact L).length) 0).length = L.length := by simp; omega
    have hr := ownsRow_sortedI (w := w) (n := k) (os := #[]) hl hb hg h1 h2 h3
    have hw : w.grownBy (grow (putRow (Value.int .i64) (Sort.ahead w k) g 0 (Lib.compact L ++ List.replicate (L.length - (Lib.compact L).length) 0).toArray) #[]) (some g) := grownBy_sortedI _
    rw [← eg] at hr hw
    refine ⟨_, he, ?_, hw⟩
    have := row_cut hr hc
    rwa [List.take_left' rfl] at this
def placesOf (a b : List Atom) : List Int := (a ++ b).map (·.p)
theorem ext_one {w W X : World} {base : Nat} {v : Value} {n : Nat} {e : TypeId} {s : Nat} {xs : List Value} (hE : Ext w W) (hrow : W.ownsRow base e s v n xs) (hb : w.heap.size ≤ base) (hg : W.grownBy X v.ownBlock) : Ext w X := ext_grow hE hrow hb hg
set_option maxRecDepth 20000 in
set_option maxHeartbeats 4000000 in
theorem f68_c (a1 a2 : Option Addr) (n c n2 c2 : Nat) (a b : List Atom) (w : World) (hl : Atoms w a1 a) (hn : a.length = n) (hm : Atoms w a2 b) (hn2 : b.length = n2) (ha : valLoad a = 0) (hb : valLoad b = 0) :
    Calls Try.prog 68 #[.slice a1 n c, .slice a2 n2 c2] w (RetI (placesL2 a b) w) := by
  subst hn hn2
  have h6a := (listErr_ok ha).1
  have h6b := (listErr_ok hb).1
  have Hs := Lib.hid (places_said ha hb)
  have Hsl := Lib.hid (places_len ha hb)
  obtain ⟨i0, hi⟩ := info_parts infoI
  have Hi := Lib.hid hi
  have HL := Lib.hid (loads_two (c1 := c) (c2 := c2) hl hm 22)
  have hE0 := ext_alloc w (.cells #[.slice a1 a.length c, .slice a2 b.length c2] 22)
  have hfl : [a, b].flatten = a ++ b := by simp
  clear ha hb hi
  go_enter Try.func68, Try.ntmps68
  go_wp2_with fail
  refine (f112_c _ 2 2 [a, b] _ HL.out rfl (by omega) (by rw [hfl, List.length_append]; omega)).mono ?_
  rintro e w1 ⟨v, rfl, hrow, hE1⟩
  rw [hfl] at hrow
  have hAB : (a ++ b).length ≤ 12 := by rw [List.length_append]; omega
  have e3 : (a ++ b).map (·.p) = placesOf a b := rfl
  rw [e3] at Hs
  have Htk : Hid (∀ k, (hk : k < (a ++ b).length) → ((a ++ b).take (k + 1)).map (·.p) = ((a ++ b).take k).map (·.p) ++ [(a ++ b)[k].p]) := Lib.hid (fun k hk => by rw [List.take_succ_eq_append_getElem hk, List.map_append]; rfl)
  have Hall : Hid (((a ++ b).take (a ++ b).length).map (·.p) = placesOf a b) := Lib.hid (by rw [List.take_length]; rfl)
  have HpL : Hid ((placesOf a b).length = (a ++ b).length) := Lib.hid (by simp [placesOf])
  clear e3 hfl HL
  generalize a ++ b = L at *
  obtain ⟨av, cv, ev, hA⟩ := atoms_of_row hrow
  subst ev
  have hE1 := hE0.trans' hE1
  clear hrow
  go_wp2_with fail
  go_loopw [5, 13] (fun v i wr => ∃ k : Nat, k ≤ L.length ∧ i = .int .i64 k ∧ Ext w1 wr ∧ Hid (wr.ownsRow w1.heap.size 3 1 v k (((L.take k).map (·.p)).map (.int .i64)))) (fun _ i _ => L.length - (intOf i).toNat)
  case atStart => exact ⟨0, Nat.zero_le _, rfl, Below.refl _ _, World.ownsRow_nil _ _ _ _⟩
  case round =>
    obtain ⟨k, hk, rfl, hE, H⟩ := hrel
    by_cases hlt : k < L.length
    · obtain ⟨b1, o1, rfl, hb1, hc1, hc2⟩ := hA.ext hE k hlt
      have Ht := Lib.hid (Htk.out k hlt)
      generalize L[k].p = pp at *
      generalize L[k].m = mm at *
      have hE2 := hE.trans' (ext_alloc wr (.cells #[.int .i64 pp, .int .i64 mm] 50))
      have H2 := Lib.hid (H.out.alloc (.cells #[.int .i64 pp, .int .i64 mm] 50))
      have hs2 := hE.size
      have Hn := Lib.hid (reads_ints (ints_new1 (wr.alloc (.cells #[.int .i64 pp, .int .i64 mm] 50)) pp 3 (wr.heap.size + 1) (by simp)))
      go_wp2_with (at_builtin; refine wpList_append_any _ rfl (.tmp 17) (.tmp 20) 31 rfl w1.heap.size 3 i0 (.int .i64 0) 1 8 Try.underlying31 Hi.out.1 Hi.out.2.1 Hi.out.2.2.1 Hi.out.2.2.2 rfl (by omega) _ k _ rfl (H2.out.alloc _) _ (some ⟨wr.heap.size + 1, 0, none⟩) 1 1 ([pp].map (.int .i64)) rfl Hn.out (by simp [Value.oneCell']) (by unfold maxLen; omega) (by omega) (by simp; omega) ?_; intro v' w4 hown hgrow hat; have hE4 := ext_append hE2 H2.out (Nat.le_refl _) hgrow; rw [← List.map_append, ← Ht.out] at hown; have H4 := Lib.hid hown; clear hat hgrow hown)
      go_roundw
      case rel => exact ⟨k + 1, by omega, by go_num, hE4, H4⟩
      case measure => simp [intOf]; omega
    · obtain rfl : k = L.length := by omega
      have H2 := H.out
      rw [Hall.out] at H2
      have Hl := HpL.out
      have C1 := Lib.hid (f113_c H2 (by omega))
      obtain ⟨ag, cg, e⟩ := slice_form H2
      subst e
      clear H
      have hEr := hE1.trans' hE
      have hw1 := hE1.size
      clear Hl
      go_wp2_with fail
      refine C1.out.mono ?_
      rintro e w5 ⟨rfl, hr5, hg5⟩
      have hE5 := ext_grow hEr H2 hw1 hg5
      have C2 := Lib.hid (f114_c hr5 (by rw [sortI_length]; have := HpL.out; omega))
      rw [Hs.out] at C2
      clear H2 hg5
      have R5 := Lib.hid hr5
      clear hr5
      go_wp2_with fail
      refine C2.out.mono ?_
      rintro e w6 ⟨v6, rfl, hr6, hg6⟩
      obtain ⟨a6, c6, e6, hI⟩ := ints_of_row hr6
      have hf := Lib.hid (show RetI (placesL2 a b) w (.returned v6) w6 from ⟨a6, c6, by rw [e6], hI, ext_grow hE5 R5.out hw1 hg6⟩)
      subst e6
      clear hr6 hg6 hI
      go_wp2_with fail
      go_ret
      exact hf.out
end Go.Proofs.Ytfhgnmijigdlmaa
