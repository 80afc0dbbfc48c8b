/- Contracts of layer 7: Clone, the places of a unit, lists of atoms from places. -/
import Derived.Test.YtgnjaapjaglleaaT6
namespace Go.Proofs.Ytgnjaapjaglleaa
open Go.RowKit
attribute [local go_sem] GW.cell

theorem ints_nil {w : World} {l : List Int} (hl : Ints w none l) : l = [] := by
  cases l with
  | nil => rfl
  | cons s l => obtain ⟨b, off, h, _⟩ := hl 0 (by simp); cases h
theorem atoms_nil {w : World} {l : List Atom} (hl : Atoms w none l) : l = [] := by
  cases l with
  | nil => rfl
  | cons s l => obtain ⟨b, off, h, _⟩ := hl 0 (by simp); cases h
set_option maxHeartbeats 1000000 in
theorem f99_c (a : Option Addr) (n c : Nat) (l : List Int) (w : World) (hl : Ints w a l) (hn : l.length = n) (hlen : n ≤ 1000000) :
    Calls Try.prog 99 #[.slice a n c] w (RetI l w) := by
  subst hn
  have hnil := fun (w : World) => Lib.run_eql_slice_nil (P := Try.prog) w 30 3 a l.length c 0 0 Try.underlying30
  obtain ⟨i0, hi⟩ := info_parts info3
  have Hi := Lib.hid hi
  clear hi
  cases a with
  | none =>
    have H0 := Lib.hid (ints_nil hl)
    clear hl Hi
    generalize hn : l.length = n at *
    have Hn := Lib.hid hn
    clear hn
    go_enter Try.func99, Try.ntmps99
    go_wp2_with fail
    go_ret
    have e : l = [] := H0.out
    subst e
    exact ⟨none, 0, rfl, fun j hj => by simp at hj, Below.refl _ _⟩
  | some ad =>
    have Hrow := Lib.hid (row_empty w 3 1)
    have Hr := Lib.hid (reads_ints (hl.ext (ext_alloc w (.cells #[] 3))))
    go_enter Try.func99, Try.ntmps99
    go_wp2_with (at_builtin; refine wpList_append_any _ rfl (.tmp 5) (.tmp 6) 30 rfl w.heap.size 3 i0 _ 1 8 Try.underlying30 Hi.out.1 Hi.out.2.1 Hi.out.2.2.1 Hi.out.2.2.2 rfl (by omega) (.slice (some ⟨w.heap.size, 0, none⟩) 0 0) 0 [] rfl Hrow.out _ (some ad) l.length c (l.map (.int .i64)) rfl Hr.out (by intro u hu; obtain ⟨x, _, rfl⟩ := List.mem_map.1 hu; rfl) (by unfold maxLen; omega) (by omega) (by simp) ?_; intro v' w1 hown hgrow hat)
    go_ret
    have h2 : w1.ownsRow w.heap.size 3 1 v' l.length (l.map (.int .i64)) := by simpa using hown
    obtain ⟨ad', cp, rfl, hI⟩ := ints_of_row h2
    exact ⟨ad', cp, rfl, hI, ext_grow (ext_alloc _ _) Hrow.out (Nat.le_refl _) hgrow⟩

/-- the array of places behind q loads -/
def fillV (P : List Int) (q : Nat) : Array Value := ((List.range 5).map fun j => Value.int .i64 (if j < q then P[j]?.getD 0 else 0)).toArray
theorem fillV_zero (P : List Int) : fillV P 0 = #[.int .i64 0, .int .i64 0, .int .i64 0, .int .i64 0, .int .i64 0] := by
  simp [fillV, List.range_succ]
theorem fillV_set (P : List Int) (q : Nat) : (fillV P q).setIfInBounds q (.int .i64 (P[q]?.getD 0)) = fillV P (q + 1) := by
  apply Array.ext
  · simp [fillV]
  · intro i h1 h2
    have hi : i < 5 := by simpa [fillV] using h2
    rw [Array.getElem_setIfInBounds (by simpa [fillV] using hi)]
    by_cases e : q = i
    · subst e; simp [fillV]
    · rw [if_neg e]
      simp only [fillV, List.getElem_toArray, List.getElem_map, List.getElem_range]
      by_cases h : i < q
      · rw [if_pos h, if_pos (by omega)]
      · rw [if_neg h, if_neg (by omega)]
theorem fillV_at (P : List Int) (q : Nat) {j : Nat} (hj : j < 5) : (fillV P q)[j]? = some (.int .i64 (if j < q then P[j]?.getD 0 else 0)) := by
  simp [fillV, hj]
theorem ints_fill {W : World} {B : Nat} {P : List Int} {T : TypeId} (h : BlkC W B (fillV P P.length) T) (h5 : P.length ≤ 5) : Ints W (some ⟨B, 0, none⟩) P := fun j hj => by
  refine ⟨B, 0, rfl, h.lt, ?_⟩
  rw [Nat.zero_add, h.cell, fillV_at P _ (by omega), if_pos hj]

set_option maxRecDepth 20000 in
set_option maxHeartbeats 2000000 in
theorem f66_c (a : Option Addr) (n c : Nat) (l : List (List Atom)) (k : Nat) (w : World) (hl : Loads w a l) (hn : l.length = n) (hok : OkLoads l) (hk : (k : Int) < totalL (l[0]?.getD [])) :
    Calls Try.prog 66 #[.slice a n c, .int .i64 k] w (RetI (placesL l k) w) := by
  subst hn
  have h5 := hok.five
  have HP := Lib.hid (placesL_length l k)
  have HAt := Lib.hid (fun j (hj : j < l.length) => placesL_at (k := k) hj)
  have Hf := Lib.hid (fun j (hj : j < l.length) => hok.fine hj)
  have Hkk : Hid (∀ j, (hj : j < l.length) → k < (unitsL l[j]).length ∧ k < 40000) := Lib.hid (fun j hj => by
    have h0 := hok.pos
    have h1 := hok.units hj
    have h2 := units_40 (hok.fine hj)
    rw [List.getElem?_eq_getElem (by omega), Option.getD_some] at hk
    omega)
  generalize placesL l k = P at *
  clear hok hk
  have HB0 := Lib.hid (BlkC.new w (fillV P 0) 97)
  rw [fillV_zero] at HB0
  have HB1 : Hid (BlkC (w.alloc (.cells #[.int .i64 0, .int .i64 0, .int .i64 0, .int .i64 0, .int .i64 0] 97)) w.heap.size (fillV P 0) 97) := Lib.hid (by rw [fillV_zero]; exact HB0.out)
  have hE0 := ext_alloc w (.cells #[.int .i64 0, .int .i64 0, .int .i64 0, .int .i64 0, .int .i64 0] 97)
  clear HB0
  go_enter Try.func66, Try.ntmps66
  go_wp2_with fail
  go_loopw [10] (fun i wr => ∃ q : Nat, q ≤ l.length ∧ i = .int .i64 q ∧ Ext w wr ∧ Hid (BlkC wr w.heap.size (fillV P q) 97)) (fun i _ => l.length - (intOf i).toNat)
  case atStart => exact ⟨0, Nat.zero_le _, rfl, hE0, HB1⟩
  case round =>
    obtain ⟨q, hq, rfl, hE, HB⟩ := hrel
    by_cases hlt : q < l.length
    · obtain ⟨b, off, a', c', rfl, hb, hc, hi⟩ := hl.ext hE q hlt
      have hk2 := Hkk.out q hlt
      go_wp2_with fail
      refine (f61_c a' _ c' l[q] _ hi rfl (Hf.out q hlt)).mono ?_
      rintro e w1 ⟨a1, c1, rfl, hI1, hE1⟩
      have HB2 := Lib.hid (HB.out.ext hE1)
      have hfz := HB2.out.frozen q
      have hcq := HB2.out.cell q
      rw [fillV_at P q (by omega)] at hcq
      obtain ⟨b1, o1, rfl, hb1, hcc⟩ := hI1 k hk2.1
      rw [← HAt.out q hlt] at hcc
      have Hs := Lib.hid (fillV_set P q)
      generalize hv : P[q]?.getD 0 = v at *
      clear hv
      have HB3 := Lib.hid (HB2.out.set q (.int .i64 v))
      rw [Hs.out] at HB3
      have hEn := (hE.trans' hE1).setCell (show w.heap.size ≤ w.heap.size from Nat.le_refl _) (p := ⟨w.heap.size, q, none⟩) (.int .i64 v)
      go_wp2_with fail
      go_roundw
      case rel => exact ⟨q + 1, by omega, by go_num, hEn, HB3⟩
      case measure => simp [intOf]; omega
    · obtain rfl : q = l.length := by omega
      have HB2 := HB.out
      rw [← HP.out] at HB2
      have HI := Lib.hid (ints_fill HB2 (by rw [HP.out]; exact h5))
      clear HB2
      have hl5 : (l.length : Int) ≤ 5 := by omega
      have hl0 : (0 : Int) ≤ (l.length : Int) := by omega
      go_wp2_with fail
      refine (f99_c (some ⟨w.heap.size, 0, none⟩) l.length 5 P _ HI.out HP.out (by omega)).mono ?_
      rintro e w1 ⟨a1, c1, rfl, hI1, hE1⟩
      go_wp2_with fail
      go_ret
      exact ⟨a1, c1, rfl, hI1, hE.trans' hE1⟩

set_option maxRecDepth 20000 in
set_option maxHeartbeats 2000000 in
theorem f70_c (a : Option Addr) (n c : Nat) (l : List (List Atom)) (k : Nat) (w : World) (hl : Loads w a l) (hn : l.length = n) (hok : OkLoads l) (hk : (k : Int) < totalL (l[0]?.getD [])) :
    Calls Try.prog 70 #[.slice a n c, .int .i64 k] w (RetI (placesL l k) w) := by
  subst hn
  have h5 := hok.five
  have HP := Lib.hid (placesL_length l k)
  have HAt := Lib.hid (fun j (hj : j < l.length) => placesL_at (k := k) hj)
  have Hf := Lib.hid (fun j (hj : j < l.length) => hok.fine hj)
  have Hkk : Hid (∀ j, (hj : j < l.length) → k < (unitsL l[j]).length ∧ k < 40000) := Lib.hid (fun j hj => by
    have h0 := hok.pos
    have h1 := hok.units hj
    have h2 := units_40 (hok.fine hj)
    rw [List.getElem?_eq_getElem (by omega), Option.getD_some] at hk
    omega)
  generalize placesL l k = P at *
  clear hok hk
  obtain ⟨i0, hi0⟩ := info_parts info3
  have Hi := Lib.hid hi0
  clear hi0
  go_enter Try.func70, Try.ntmps70
  go_wp2_with fail
  go_loopw [5, 6] (fun v i wr => ∃ q : Nat, q ≤ l.length ∧ i = .int .i64 q ∧ Ext w wr ∧ Hid (wr.ownsRow w.heap.size 3 1 v q ((P.take q).map (.int .i64)))) (fun _ i _ => l.length - (intOf i).toNat)
  case atStart => exact ⟨0, Nat.zero_le _, rfl, Below.refl _ _, World.ownsRow_nil _ _ _ _⟩
  case round =>
    obtain ⟨q, hq, rfl, hE, H⟩ := hrel
    by_cases hlt : q < l.length
    · obtain ⟨b, off, a', c', rfl, hb, hc, hi⟩ := hl.ext hE q hlt
      have hk2 := Hkk.out q hlt
      go_wp2_with fail
      refine (f63_c a' _ c' l[q] _ hi rfl (Hf.out q hlt)).mono ?_
      rintro e w1 ⟨a1, c1, rfl, hI1, hE1⟩
      obtain ⟨b1, o1, rfl, hb1, hcc⟩ := hI1 k hk2.1
      rw [← HAt.out q hlt] at hcc
      have Hs : Hid (P.take (q + 1) = P.take q ++ [P[q]?.getD 0]) := Lib.hid (by
        have h1 : q < P.length := by rw [HP.out]; exact hlt
        rw [List.take_succ_eq_append_getElem h1, List.getElem?_eq_getElem h1, Option.getD_some])
      generalize hv : P[q]?.getD 0 = x at *
      clear hv
      have hE2 := hE.trans' hE1
      have H1 := Lib.hid (row_ext H.out hE1)
      have Hn := Lib.hid (reads_ints (ints_new1 w1 x 3 w1.heap.size rfl))
      have hszx := hE2.size
      clear H
      go_wp2_with (at_builtin; refine wpList_append_any _ rfl (.tmp 13) (.tmp 22) 30 rfl w.heap.size 3 i0 (.int .i64 0) 1 8 Try.underlying30 Hi.out.1 Hi.out.2.1 Hi.out.2.2.1 Hi.out.2.2.2 rfl (by omega) _ q _ rfl (Lib.hid (World.ownsRow.alloc H1.out _)).out _ (some ⟨w1.heap.size, 0, none⟩) 1 1 [.int .i64 x] rfl Hn.out (by simp [Value.oneCell']) (by unfold maxLen; omega) (by omega) (by simp; omega) ?_; intro v' w4 hown hgrow hat; have hE4 := ext_append hE2 H1.out (Nat.le_refl _) hgrow; have H4 : Hid (w4.ownsRow w.heap.size 3 1 v' (q + 1) ((P.take (q + 1)).map (.int .i64))) := (by rw [Hs.out, List.map_append]; exact hown); clear hat hgrow hown)
      go_roundw
      case rel => exact ⟨q + 1, by omega, by go_num, hE4, H4⟩
      case measure => simp [intOf]; omega
    · obtain rfl : q = l.length := by omega
      have H2 := H.out
      rw [List.take_of_length_le (by rw [HP.out]; exact Nat.le_refl _)] at H2
      obtain ⟨ad, cp, rfl, hI⟩ := ints_of_row H2
      have hPl := HP.out
      clear H H2
      go_wp2_with fail
      go_ret
      refine ⟨ad, cp, ?_, hI, hE⟩
      rw [hPl]
      rfl

set_option maxRecDepth 20000 in
set_option maxHeartbeats 4000000 in
theorem f67_c (a : Option Addr) (n c : Nat) (l : List Int) (w : World) (hl : Ints w a l) (hn : l.length = n) (hlen : n ≤ 40000) :
    Calls Try.prog 67 #[.slice a n c] w fun e w' => ∃ v, e = .returned v ∧ w'.ownsRow w.heap.size 66 2 v (collectL l).length (atomV (collectL l)) ∧ Ext w w' := by
  subst hn
  obtain ⟨i0, hi0⟩ := info_parts info66
  have Hi := Lib.hid hi0
  have Hm := Lib.hid (collect_mass l)
  clear hi0
  go_enter Try.func67, Try.ntmps67
  go_wp2_with fail
  go_loopw [3, 9] (fun v i wr => ∃ k : Nat, k ≤ l.length ∧ i = .int .i64 k ∧ Ext w wr ∧ Hid (wr.ownsRow w.heap.size 66 2 v (collectL (l.take k)).length (atomV (collectL (l.take k))))) (fun _ i _ => l.length - (intOf i).toNat)
  case atStart => exact ⟨0, Nat.zero_le _, rfl, Below.refl _ _, World.ownsRow_nil _ _ _ _⟩
  case round =>
    obtain ⟨k, hk, rfl, hE, H⟩ := hrel
    by_cases hlt : k < l.length
    · obtain ⟨b, off, rfl, hb, hc⟩ := hl.ext hE k hlt
      obtain ⟨hlk, hmk⟩ := Hm.out k hk
      have Hs := Lib.hid (collect_take hlt)
      generalize hx : l[k]?.getD 0 = x at *
      have Hx := Lib.hid hx
      clear hx
      generalize hL : collectL (l.take k) = L at *
      have HL := Lib.hid hL
      clear hL
      have Hmk := Lib.hid hmk
      clear hmk
      have Happ : Hid (∀ (L' : List Atom), L'.length ≤ 40000 → addU L' x = L' ++ [⟨x, 1⟩] → ∀ (v : Value) (w2 : World), Ext w w2 → w2.ownsRow w.heap.size 66 2 v L'.length (atomV L') → True) := fun _ _ _ _ _ _ _ => trivial
      clear Happ
      cases L with
      | nil =>
        simp only [List.length_nil] at H
        have Hu : Hid (collectL (l.take (k + 1)) = [⟨x, 1⟩]) := Lib.hid (by rw [Hs.out]; rfl)
        obtain ⟨av, cv, rfl⟩ := slice_form H.out
        obtain ⟨w2, rfl⟩ : ∃ w2 : World, w2 = wr := ⟨_, rfl⟩
        have hE3 := hE
        have H3 := H
        clear H
        have hE4 := hE3
        have H4 := Lib.hid (World.ownsRow.alloc H3.out (.cells #[.int .i64 x, .int .i64 1] 66))
        have Hn := Lib.hid (reads_atoms (atoms_new1 w2 ⟨x, 1⟩ 66))
        have hszx := hE3.size
        go_wp2_with (at_builtin; refine wpList_append_any _ rfl (.tmp 36) (.tmp 39) 22 rfl w.heap.size 66 i0 _ 2 16 Try.underlying22 Hi.out.1 Hi.out.2.1 Hi.out.2.2.1 Hi.out.2.2.2 rfl (by omega) _ 0 _ rfl H4.out _ (some ⟨w2.heap.size, 0, none⟩) 1 1 (atomV [⟨x, 1⟩]) rfl Hn.out (atomV_one_cell _) (by unfold maxLen; omega) (by omega) (by simp; omega) ?_; intro v' w4 hown hgrow hat; have hE5 := ext_append hE4 H3.out (Nat.le_refl _) hgrow; have H5 : Hid (w4.ownsRow w.heap.size 66 2 v' (collectL (l.take (k + 1))).length (atomV (collectL (l.take (k + 1))))) := (by rw [Hu.out]; exact hown); clear hat hgrow hown)
        go_roundw
        case rel => exact ⟨k + 1, by omega, by go_num, hE5, H5⟩
        case measure => simp [intOf]; omega
      | cons y L' =>
        obtain ⟨m, hm⟩ : ∃ m, (y :: L').length = m + 1 := ⟨L'.length, rfl⟩
        generalize hLL : y :: L' = L at *
        clear hLL
        have Hlen := Lib.hid hm
        rw [hm] at H
        obtain ⟨g, cap, rfl, hg1, hg2⟩ := ownsRow_form H.out (by omega)
        have hmL : m < L.length := by omega
        have hat := atomV_at L m hmL
        have gp : wr.cell? ⟨g, m * 2, none⟩ = some (.int .i64 L[m].p) := (H.out.cellAt (m * 2) (by omega)).trans hat.1
        have gm : wr.cell? ⟨g, m * 2 + 1, none⟩ = some (.int .i64 L[m].m) := (H.out.cellAt (m * 2 + 1) (by omega)).trans hat.2
        have gf := H.out.frozenAt (m * 2 + 1)
        have hmb := Hmk.out m hmL
        clear hat
        by_cases hp : L[m].p = x
        · have Hu : Hid (collectL (l.take (k + 1)) = L.set m { L[m] with m := L[m].m + 1 }) := Lib.hid (by
            rw [Hs.out, addU_hit (by omega) (by simp only [hm, Nat.add_sub_cancel]; exact hp)]; simp only [hm, Nat.add_sub_cancel])
          have hb2 : (L[m].p == x) = true := by simp [hp]
          clear hp
          have Hst := Lib.hid (atomV_set1 L m hmL (L[m].m + 1))
          have Hsl : Hid ((L.set m { L[m] with m := L[m].m + 1 }).length = m + 1) := Lib.hid (by rw [List.length_set]; exact hm)
          generalize L[m].m = y at *
          clear hm
          obtain ⟨w2, rfl⟩ : ∃ w2 : World, w2 = wr := ⟨_, rfl⟩
          have hE3 := hE
          have H3 := H
          clear H
          have hE4 := hE3.setCell (show w.heap.size ≤ g from hg1) (p := ⟨g, m * 2 + 1, none⟩) (.int .i64 (y + 1))
          have H4 : Hid ((w2.setCell ⟨g, m * 2 + 1, none⟩ (.int .i64 (y + 1))).ownsRow w.heap.size 66 2 (.slice (some ⟨g, 0, none⟩) (m + 1) cap) (collectL (l.take (k + 1))).length (atomV (collectL (l.take (k + 1))))) := Lib.hid (by
            rw [Hu.out, Hsl.out, ← Hst.out]; exact (H3.out.stored (m * 2 + 1) (.int .i64 (y + 1))).1)
          go_wp2_with fail
          go_roundw
          case rel => exact ⟨k + 1, by omega, by go_num, hE4, H4⟩
          case measure => simp [intOf]; omega
        · have Hu : Hid (collectL (l.take (k + 1)) = L ++ [⟨x, 1⟩]) := Lib.hid (by
            rw [Hs.out, addU_miss (by omega) (by simp only [hm, Nat.add_sub_cancel]; exact hp)])
          have hb2 : (L[m].p == x) = false := by simp [hp]
          clear hp hm
          obtain ⟨w2, rfl⟩ : ∃ w2 : World, w2 = wr := ⟨_, rfl⟩
          have hE3 := hE
          have H3 := H
          clear H
          have H4 := Lib.hid (World.ownsRow.alloc H3.out (.cells #[.int .i64 x, .int .i64 1] 66))
          have Hn := Lib.hid (reads_atoms (atoms_new1 w2 ⟨x, 1⟩ 66))
          have hszx := hE3.size
          go_wp2_with (at_builtin; refine wpList_append_any _ rfl (.tmp 36) (.tmp 39) 22 rfl w.heap.size 66 i0 _ 2 16 Try.underlying22 Hi.out.1 Hi.out.2.1 Hi.out.2.2.1 Hi.out.2.2.2 rfl (by omega) _ (m + 1) _ rfl H4.out _ (some ⟨w2.heap.size, 0, none⟩) 1 1 (atomV [⟨x, 1⟩]) rfl Hn.out (atomV_one_cell _) (by unfold maxLen; omega) (by omega) (by simp; omega) ?_; intro v' w4 hown hgrow hat; have hE5 := ext_append hE3 H3.out (Nat.le_refl _) hgrow; have H5 : Hid (w4.ownsRow w.heap.size 66 2 v' (collectL (l.take (k + 1))).length (atomV (collectL (l.take (k + 1))))) := (by rw [Hu.out, List.length_append, Hlen.out, atomV_append]; exact hown); clear hat hgrow hown)
          go_roundw
          case rel => exact ⟨k + 1, by omega, by go_num, hE5, H5⟩
          case measure => simp [intOf]; omega
    · obtain rfl : k = l.length := by omega
      have H2 := H.out
      rw [List.take_length] at H2
      have H3 := Lib.hid H2
      obtain ⟨av, cv, rfl⟩ := slice_form H2
      clear H H2
      go_wp2_with fail
      go_ret
      exact ⟨_, rfl, H3.out, hE⟩

set_option maxRecDepth 20000 in
set_option maxHeartbeats 4000000 in
theorem f71_c (a : Option Addr) (n c : Nat) (l : List Int) (w : World) (hl : Ints w a l) (hn : l.length = n) (hlen : n ≤ 40000) :
    Calls Try.prog 71 #[.slice a n c] w fun e w' => ∃ v, e = .returned v ∧ w'.ownsRow w.heap.size 66 2 v (collectL l).length (atomV (collectL l)) ∧ Ext w w' := by
  subst hn
  obtain ⟨i0, hi0⟩ := info_parts info66
  have Hi := Lib.hid hi0
  have Hm := Lib.hid (collect_mass l)
  clear hi0
  go_enter Try.func71, Try.ntmps71
  go_wp2_with fail
  go_loopw [3, 4] (fun v i wr => ∃ k : Nat, k ≤ l.length ∧ i = .int .i64 k ∧ Ext w wr ∧ Hid (wr.ownsRow w.heap.size 66 2 v (collectL (l.take k)).length (atomV (collectL (l.take k))))) (fun _ i _ => l.length - (intOf i).toNat)
  case atStart => exact ⟨0, Nat.zero_le _, rfl, Below.refl _ _, World.ownsRow_nil _ _ _ _⟩
  case round =>
    obtain ⟨k, hk, rfl, hE, H⟩ := hrel
    by_cases hlt : k < l.length
    · obtain ⟨b, off, rfl, hb, hc⟩ := hl.ext hE k hlt
      obtain ⟨hlk, hmk⟩ := Hm.out k hk
      have Hs := Lib.hid (collect_take hlt)
      generalize hx : l[k]?.getD 0 = x at *
      have Hx := Lib.hid hx
      clear hx
      generalize hL : collectL (l.take k) = L at *
      have HL := Lib.hid hL
      clear hL
      have Hmk := Lib.hid hmk
      clear hmk
      have Happ : Hid (∀ (L' : List Atom), L'.length ≤ 40000 → addU L' x = L' ++ [⟨x, 1⟩] → ∀ (v : Value) (w2 : World), Ext w w2 → w2.ownsRow w.heap.size 66 2 v L'.length (atomV L') → True) := fun _ _ _ _ _ _ _ => trivial
      clear Happ
      cases L with
      | nil =>
        simp only [List.length_nil] at H
        have Hu : Hid (collectL (l.take (k + 1)) = [⟨x, 1⟩]) := Lib.hid (by rw [Hs.out]; rfl)
        obtain ⟨av, cv, rfl⟩ := slice_form H.out
        go_wp2_with fail
        refine wp_region_ext (by kernel_rfl) (by kernel_rfl) ?_
        repeat (go_big_quiet_step (fail))
        refine wpQuiet_nil ?_
        intro w2 hE2
        have hE3 := hE.trans' hE2
        have H3 := Lib.hid (row_ext H.out hE2)
        clear H
        have hE4 := hE3
        have H4 := Lib.hid (World.ownsRow.alloc H3.out (.cells #[.int .i64 x, .int .i64 1] 66))
        have Hn := Lib.hid (reads_atoms (atoms_new1 w2 ⟨x, 1⟩ 66))
        have hszx := hE3.size
        obtain ⟨b3, off3, he3, hb3, hc3⟩ := hl.ext hE3 k hlt
        simp only [Option.some.injEq, Addr.mk.injEq] at he3
        obtain ⟨rfl, rfl, -⟩ := he3
        rw [Hx.out] at hc3
        go_wp2_with (at_builtin; refine wpList_append_any _ rfl (.tmp 38) (.tmp 44) 22 rfl w.heap.size 66 i0 _ 2 16 Try.underlying22 Hi.out.1 Hi.out.2.1 Hi.out.2.2.1 Hi.out.2.2.2 rfl (by omega) _ 0 _ rfl H4.out _ (some ⟨w2.heap.size, 0, none⟩) 1 1 (atomV [⟨x, 1⟩]) rfl Hn.out (atomV_one_cell _) (by unfold maxLen; omega) (by omega) (by simp; omega) ?_; intro v' w4 hown hgrow hat; have hE5 := ext_append hE4 H3.out (Nat.le_refl _) hgrow; have H5 : Hid (w4.ownsRow w.heap.size 66 2 v' (collectL (l.take (k + 1))).length (atomV (collectL (l.take (k + 1))))) := (by rw [Hu.out]; exact hown); clear hat hgrow hown)
        go_roundw
        case rel => exact ⟨k + 1, by omega, by go_num, hE5, H5⟩
        case measure => simp [intOf]; omega
      | cons y L' =>
        obtain ⟨m, hm⟩ : ∃ m, (y :: L').length = m + 1 := ⟨L'.length, rfl⟩
        generalize hLL : y :: L' = L at *
        clear hLL
        have Hlen := Lib.hid hm
        rw [hm] at H
        obtain ⟨g, cap, rfl, hg1, hg2⟩ := ownsRow_form H.out (by omega)
        have hmL : m < L.length := by omega
        have hat := atomV_at L m hmL
        have gp : wr.cell? ⟨g, m * 2, none⟩ = some (.int .i64 L[m].p) := (H.out.cellAt (m * 2) (by omega)).trans hat.1
        have gm : wr.cell? ⟨g, m * 2 + 1, none⟩ = some (.int .i64 L[m].m) := (H.out.cellAt (m * 2 + 1) (by omega)).trans hat.2
        have gf := H.out.frozenAt (m * 2 + 1)
        have hmb := Hmk.out m hmL
        clear hat
        by_cases hp : L[m].p = x
        · have Hu : Hid (collectL (l.take (k + 1)) = L.set m { L[m] with m := L[m].m + 1 }) := Lib.hid (by
            rw [Hs.out, addU_hit (by omega) (by simp only [hm, Nat.add_sub_cancel]; exact hp)]; simp only [hm, Nat.add_sub_cancel])
          have hb2 : (L[m].p == x) = true := by simp [hp]
          clear hp
          have Hst := Lib.hid (atomV_set1 L m hmL (L[m].m + 1))
          have Hsl : Hid ((L.set m { L[m] with m := L[m].m + 1 }).length = m + 1) := Lib.hid (by rw [List.length_set]; exact hm)
          generalize L[m].m = y at *
          clear hm
          go_wp2_with fail
          refine wp_region_ext (by kernel_rfl) (by kernel_rfl) ?_
          repeat (go_big_quiet_step (fail))
          refine wpQuiet_nil ?_
          intro w2 hE2
          have hE3 := hE.trans' hE2
          have H3 := Lib.hid (row_ext H.out hE2)
          have gm2 := (hE2.cell' hg2).trans gm
          have gf2 := (fz_old hE2 hg2 _).trans gf
          clear H
          have hE4 := hE3.setCell (show w.heap.size ≤ g from hg1) (p := ⟨g, m * 2 + 1, none⟩) (.int .i64 (y + 1))
          have H4 : Hid ((w2.setCell ⟨g, m * 2 + 1, none⟩ (.int .i64 (y + 1))).ownsRow w.heap.size 66 2 (.slice (some ⟨g, 0, none⟩) (m + 1) cap) (collectL (l.take (k + 1))).length (atomV (collectL (l.take (k + 1))))) := Lib.hid (by
            rw [Hu.out, Hsl.out, ← Hst.out]; exact (H3.out.stored (m * 2 + 1) (.int .i64 (y + 1))).1)
          go_wp2_with fail
          go_roundw
          case rel => exact ⟨k + 1, by omega, by go_num, hE4, H4⟩
          case measure => simp [intOf]; omega
        · have Hu : Hid (collectL (l.take (k + 1)) = L ++ [⟨x, 1⟩]) := Lib.hid (by
            rw [Hs.out, addU_miss (by omega) (by simp only [hm, Nat.add_sub_cancel]; exact hp)])
          have hb2 : (L[m].p == x) = false := by simp [hp]
          clear hp hm
          go_wp2_with fail
          refine wp_region_ext (by kernel_rfl) (by kernel_rfl) ?_
          repeat (go_big_quiet_step (fail))
          refine wpQuiet_nil ?_
          intro w2 hE2
          have hE3 := hE.trans' hE2
          have H3 := Lib.hid (row_ext H.out hE2)
          have gm2 := (hE2.cell' hg2).trans gm
          have gf2 := (fz_old hE2 hg2 _).trans gf
          clear H
          have H4 := Lib.hid (World.ownsRow.alloc H3.out (.cells #[.int .i64 x, .int .i64 1] 66))
          have Hn := Lib.hid (reads_atoms (atoms_new1 w2 ⟨x, 1⟩ 66))
          have hszx := hE3.size
          obtain ⟨b3, off3, he3, hb3, hc3⟩ := hl.ext hE3 k hlt
          simp only [Option.some.injEq, Addr.mk.injEq] at he3
          obtain ⟨rfl, rfl, -⟩ := he3
          rw [Hx.out] at hc3
          go_wp2_with (at_builtin; refine wpList_append_any _ rfl (.tmp 38) (.tmp 44) 22 rfl w.heap.size 66 i0 _ 2 16 Try.underlying22 Hi.out.1 Hi.out.2.1 Hi.out.2.2.1 Hi.out.2.2.2 rfl (by omega) _ (m + 1) _ rfl H4.out _ (some ⟨w2.heap.size, 0, none⟩) 1 1 (atomV [⟨x, 1⟩]) rfl Hn.out (atomV_one_cell _) (by unfold maxLen; omega) (by omega) (by simp; omega) ?_; intro v' w4 hown hgrow hat; have hE5 := ext_append hE3 H3.out (Nat.le_refl _) hgrow; have H5 : Hid (w4.ownsRow w.heap.size 66 2 v' (collectL (l.take (k + 1))).length (atomV (collectL (l.take (k + 1))))) := (by rw [Hu.out, List.length_append, Hlen.out, atomV_append]; exact hown); clear hat hgrow hown)
          go_roundw
          case rel => exact ⟨k + 1, by omega, by go_num, hE5, H5⟩
          case measure => simp [intOf]; omega
    · obtain rfl : k = l.length := by omega
      have H2 := H.out
      rw [List.take_length] at H2
      have H3 := Lib.hid H2
      obtain ⟨av, cv, rfl⟩ := slice_form H2
      clear H H2
      go_wp2_with fail
      go_ret
      exact ⟨_, rfl, H3.out, hE⟩

end Go.Proofs.Ytgnjaapjaglleaa
