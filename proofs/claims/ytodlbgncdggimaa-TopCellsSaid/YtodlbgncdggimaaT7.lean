/- The owners of the pixels of a field: cells. -/
import Derived.Maps.AppendAt
import Derived.Test.YtodlbgncdggimaaT4
import Derived.Test.YtodlbgncdggimaaT6
namespace Go.Proofs.Ytodlbgncdggimaa
open Go.RowKit
attribute [local go_sem] GW.cell Oper.semAt_some wide_depth

theorem info3 : (Try.prog.info? 3).map (fun i => (i.zero, i.size, i.bytes)) = some (some (.int .i64 0), 1, 8) := by kernel_rfl

/-- the owner of pixel k -/
def own (l : List Site) (wd k : Nat) : Int :=
  idxOf (minTo (l.map fun s => pow s ((k : Int) % (wd : Int)) ((k : Int) / (wd : Int))) l.length)
    [pw l ((k : Int) % (wd : Int)) ((k : Int) / (wd : Int)) 0, pw l ((k : Int) % (wd : Int)) ((k : Int) / (wd : Int)) 1, pw l ((k : Int) % (wd : Int)) ((k : Int) / (wd : Int)) 2, pw l ((k : Int) % (wd : Int)) ((k : Int) / (wd : Int)) 3, pw l ((k : Int) % (wd : Int)) ((k : Int) / (wd : Int)) 4]
def owns (l : List Site) (wd k : Nat) : List Int := (List.range k).map (own l wd)
theorem owns_succ (l : List Site) (wd k : Nat) : owns l wd (k + 1) = owns l wd k ++ [own l wd k] := by simp [owns, List.range_succ]
theorem owns_length (l : List Site) (wd k : Nat) : (owns l wd k).length = k := by simp [owns]

theorem ints_new5 (w : World) (x0 x1 x2 x3 x4 : Int) (T : TypeId) : Ints (w.alloc (.cells #[.int .i64 x0, .int .i64 x1, .int .i64 x2, .int .i64 x3, .int .i64 x4] T)) (some ⟨w.heap.size, 0, none⟩) [x0, x1, x2, x3, x4] := by
  intro j hj
  refine ⟨_, _, rfl, by simp, ?_⟩
  match j, hj with
  | 0, _ => simp
  | 1, _ => simp
  | 2, _ => simp
  | 3, _ => simp
  | 4, _ => simp

theorem pix_in {wd ht k : Nat} (hw1 : 1 ≤ wd) (hw2 : wd ≤ 12) (hh2 : ht ≤ 12) (hk : k < wd * ht) : Inside ((k : Int) % (wd : Int)) ((k : Int) / (wd : Int)) := by
  have h1 : 0 ≤ (k : Int) % (wd : Int) := Int.emod_nonneg _ (by omega)
  have h2 : (k : Int) % (wd : Int) < (wd : Int) := Int.emod_lt_of_pos _ (by omega)
  have h3 : 0 ≤ (k : Int) / (wd : Int) := Int.ediv_nonneg (by omega) (by omega)
  have h4 : (k : Int) / (wd : Int) ≤ (k : Int) := Int.ediv_le_self _ (by omega)
  have h5 : wd * ht ≤ 144 := Nat.le_trans (Nat.mul_le_mul hw2 hh2) (by omega)
  unfold Inside; omega

set_option maxRecDepth 100000 in
set_option maxHeartbeats 2000000 in
theorem f56_c (a : Option Addr) (n c : Nat) (l : List Site) (wd ht : Nat) (w : World) (hl : Sites w a l) (hn : l.length = n) (hok : okSites l = true) (hw1 : 1 ≤ wd) (hw2 : wd ≤ 12) (hh1 : 1 ≤ ht) (hh2 : ht ≤ 12) :
    Calls Try.prog 56 #[.slice a n c, .int .i64 wd, .int .i64 ht] w fun e w' => ∃ v, e = .returned v ∧ w'.ownsRow w.heap.size 3 1 v (wd * ht) ((owns l wd (wd * ht)).map (.int .i64)) ∧ Ext w w' := by
  have Hok := Lib.hid hok
  clear hok
  have hN : wd * ht ≤ 144 := Nat.le_trans (Nat.mul_le_mul hw2 hh2) (by omega)
  obtain ⟨i0, hi, hz0, hz1, hz2⟩ := info_parts info3
  refine calls_range Try.func56 rfl ?_
  simp only [Try.ntmps56, List.size_toArray, List.length_cons, List.length_nil, Nat.reduceAdd, Nat.reduceSub, Array.replicate_succ, Array.replicate_zero, List.push_toArray, List.append_toArray, List.nil_append, List.cons_append]
  go_wp2_with (go_at_call 63; refine (f63_c _ _ _).mono ?_; rintro e w' ⟨rfl, rfl⟩)
  have b0 := Boxed.new w 22 (.slice a n c)
  have b1 := Boxed.new (w.alloc (.cells #[.slice a n c] 22)) 26 (.slice none 0 0)
  have b2 := Boxed.new ((w.alloc (.cells #[.slice a n c] 22)).alloc (.cells #[.slice none 0 0] 26)) 3 (.int .i64 wd)
  have b3 := Boxed.new (((w.alloc (.cells #[.slice a n c] 22)).alloc (.cells #[.slice none 0 0] 26)).alloc (.cells #[.int .i64 wd] 3)) 3 (.int .i64 ht)
  simp only [World.size_alloc] at b1 b2 b3
  have hE0 := ((((Below.refl _ w).alloc (Nat.le_refl _) (.cells #[.slice a n c] 22)).alloc (by simp) (.cells #[.slice none 0 0] 26)).alloc (by simp; omega) (.cells #[.int .i64 wd] 3)).alloc (by simp; omega) (.cells #[.int .i64 ht] 3)
  refine wp_range (gf := 89) (lb := #[.pointer (some ⟨w.heap.size + 2, 0, none⟩), .pointer (some ⟨w.heap.size + 3, 0, none⟩)]) rfl (enters_of Try.func89 (by kernel_rfl) rfl)
    (f89_seq wd ht hw1 (by omega) (by omega) (w.heap.size + 2) (w.heap.size + 3)) (fun _ => rfl)
    (fun k W => (∃ v, Boxed W (w.heap.size + 1) 26 v ∧ W.ownsRow (w.heap.size + 4) 3 1 v k ((owns l wd k).map (.int .i64))) ∧ Ext w W ∧ Boxed W w.heap.size 22 (.slice a n c) ∧ Boxed W (w.heap.size + 2) 3 (.int .i64 wd) ∧ Boxed W (w.heap.size + 3) 3 (.int .i64 ht))
    (fun _ _ _ => False) ?hI (fun _ _ _ _ _ h _ _ => h) (fun k W h => ⟨h.2.2.2.1.cell, h.2.2.2.2.cell⟩)
    ⟨⟨_, (b1.alloc _).alloc _, World.ownsRow_nil _ _ _ _⟩, hE0, ((b0.alloc _).alloc _).alloc _, b2.alloc _, b3⟩
    (fun k => { tmps := #[.slice a n c, .int .i64 wd, .int .i64 ht, .pointer (some ⟨w.heap.size, 0, none⟩), undef, undef, .slice none 0 0, .pointer (some ⟨w.heap.size + 1, 0, none⟩), .int .i64 ((k : Int) % (wd : Int)), .int .i64 ((k : Int) / (wd : Int)), undef, undef, .int .i64 wd, .int .i64 ht, .func (.func 89) #[] #[.pointer (some ⟨w.heap.size + 2, 0, none⟩), .pointer (some ⟨w.heap.size + 3, 0, none⟩)], .int .i64 ((k : Int) % (wd : Int)), .int .i64 ((k : Int) / (wd : Int)), undef, undef, undef, undef, undef, undef, undef, undef, undef, undef, undef, undef, undef, undef], defers := [] }) ?assign ?body ?done ?stop
  case hI =>
    rintro k X Y row ⟨⟨v, h1, h2⟩, hE, h3, h4, h5⟩ hg hr
    exact ⟨⟨v, box_keep h1 hg hr, row_keep h2 hg hr⟩, ext_keep hE hg (by simp; omega) hr, box_keep h3 hg hr, box_keep h4 hg hr, box_keep h5 hg hr⟩
  case assign =>
    intro l x W K hK
    unfold pix
    gi_wp2
    exact hK
  case body =>
    rintro l0 k W ⟨⟨v, h1, h2⟩, hE, h3, h4, h5⟩ hk
    have hc3 := h3.cell
    gi_wp2_with fail
    refine ⟨trivial, (CallsIn.inRound l0 (callsIn_wide.2 (f64_c a n c l _ _ _ (hl.ext hE) hn Hok.out (pix_in hw1 hw2 hh2 hk)))).mono ?_⟩
    rintro e w1 ⟨rfl, hE1⟩
    gi_wp2_with fail
    have hI := ints_new5 w1 (pw l ((k : Int) % (wd : Int)) ((k : Int) / (wd : Int)) 0) (pw l ((k : Int) % (wd : Int)) ((k : Int) / (wd : Int)) 1) (pw l ((k : Int) % (wd : Int)) ((k : Int) / (wd : Int)) 2) (pw l ((k : Int) % (wd : Int)) ((k : Int) / (wd : Int)) 3) (pw l ((k : Int) % (wd : Int)) ((k : Int) / (wd : Int)) 4) 86
    have hE2 := hE1.trans' (ext_alloc w1 (.cells #[.int .i64 (pw l ((k : Int) % (wd : Int)) ((k : Int) / (wd : Int)) 0), .int .i64 (pw l ((k : Int) % (wd : Int)) ((k : Int) / (wd : Int)) 1), .int .i64 (pw l ((k : Int) % (wd : Int)) ((k : Int) / (wd : Int)) 2), .int .i64 (pw l ((k : Int) % (wd : Int)) ((k : Int) / (wd : Int)) 3), .int .i64 (pw l ((k : Int) % (wd : Int)) ((k : Int) / (wd : Int)) 4)] 86))
    obtain ⟨W2, hW2⟩ : ∃ W2, W2 = w1.alloc (.cells #[.int .i64 (pw l ((k : Int) % (wd : Int)) ((k : Int) / (wd : Int)) 0), .int .i64 (pw l ((k : Int) % (wd : Int)) ((k : Int) / (wd : Int)) 1), .int .i64 (pw l ((k : Int) % (wd : Int)) ((k : Int) / (wd : Int)) 2), .int .i64 (pw l ((k : Int) % (wd : Int)) ((k : Int) / (wd : Int)) 3), .int .i64 (pw l ((k : Int) % (wd : Int)) ((k : Int) / (wd : Int)) 4)] 86) := ⟨_, rfl⟩
    rw [← hW2] at hI hE2 ⊢
    clear hW2
    have hcO := (box_ext h1 hE2).cell
    have hlt1 := (box_ext h1 hE2).lt
    have HI := Lib.hid hI
    clear hI
    have hw5 : ∀ W', Ints W' (some ⟨w1.heap.size, 0, none⟩) _ → _ := fun W' h => f72_c (minTo (l.map fun s => pow s ((k : Int) % (wd : Int)) ((k : Int) / (wd : Int))) n) (some ⟨w1.heap.size, 0, none⟩) 5 5 [pw l ((k : Int) % (wd : Int)) ((k : Int) / (wd : Int)) 0, pw l ((k : Int) % (wd : Int)) ((k : Int) / (wd : Int)) 1, pw l ((k : Int) % (wd : Int)) ((k : Int) / (wd : Int)) 2, pw l ((k : Int) % (wd : Int)) ((k : Int) / (wd : Int)) 3, pw l ((k : Int) % (wd : Int)) ((k : Int) / (wd : Int)) 4] W' h rfl (by omega)
    refine wpIn_region_open (r := some l0) (by kernel_rfl) (by kernel_rfl) ?_
    intro w3 hE3
    have hE4 := hE2.trans' hE3
    have g1 := box_ext h1 hE4
    have g2 := row_ext h2 hE4
    have gc := g1.cell
    have hsz := h5.lt
    have hsz4 := hE4.size
    have HI3 := Lib.hid (HI.out.ext hE3)
    clear HI hcO hlt1
    have fin : ∀ (tmp : Obj) (w4 : World) (g' cap' : Nat), l.length = n → w4.ownsRow (w.heap.size + 4) 3 1 (.slice (some ⟨g', 0, none⟩) (k + 1) cap') (k + 1) ((owns l wd k).map (.int .i64) ++ [.int .i64 (idxOf (minTo (l.map fun s => pow s ((k : Int) % (wd : Int)) ((k : Int) / (wd : Int))) n) [pw l ((k : Int) % (wd : Int)) ((k : Int) / (wd : Int)) 0, pw l ((k : Int) % (wd : Int)) ((k : Int) / (wd : Int)) 1, pw l ((k : Int) % (wd : Int)) ((k : Int) / (wd : Int)) 2, pw l ((k : Int) % (wd : Int)) ((k : Int) / (wd : Int)) 3, pw l ((k : Int) % (wd : Int)) ((k : Int) / (wd : Int)) 4])]) →
        (w3.alloc tmp).grownBy w4 v.ownBlock → Boxed (w4.setCell ⟨w.heap.size + 1, 0, none⟩ (.slice (some ⟨g', 0, none⟩) (k + 1) cap')) (w.heap.size + 1) 26 (.slice (some ⟨g', 0, none⟩) (k + 1) cap') → KeepsOthers w3 (w4.setCell ⟨w.heap.size + 1, 0, none⟩ (.slice (some ⟨g', 0, none⟩) (k + 1) cap')) →
        Below w.heap.size w3 (w4.setCell ⟨w.heap.size + 1, 0, none⟩ (.slice (some ⟨g', 0, none⟩) (k + 1) cap')) →
        KeepsOthers W (w4.setCell ⟨w.heap.size + 1, 0, none⟩ (.slice (some ⟨g', 0, none⟩) (k + 1) cap')) ∧ (∃ v, Boxed (w4.setCell ⟨w.heap.size + 1, 0, none⟩ (.slice (some ⟨g', 0, none⟩) (k + 1) cap')) (w.heap.size + 1) 26 v ∧ (w4.setCell ⟨w.heap.size + 1, 0, none⟩ (.slice (some ⟨g', 0, none⟩) (k + 1) cap')).ownsRow (w.heap.size + 4) 3 1 v (k + 1) ((owns l wd (k + 1)).map (.int .i64))) ∧
          Ext w (w4.setCell ⟨w.heap.size + 1, 0, none⟩ (.slice (some ⟨g', 0, none⟩) (k + 1) cap')) ∧ Boxed (w4.setCell ⟨w.heap.size + 1, 0, none⟩ (.slice (some ⟨g', 0, none⟩) (k + 1) cap')) w.heap.size 22 (.slice a n c) ∧ Boxed (w4.setCell ⟨w.heap.size + 1, 0, none⟩ (.slice (some ⟨g', 0, none⟩) (k + 1) cap')) (w.heap.size + 2) 3 (.int .i64 wd) ∧ Boxed (w4.setCell ⟨w.heap.size + 1, 0, none⟩ (.slice (some ⟨g', 0, none⟩) (k + 1) cap')) (w.heap.size + 3) 3 (.int .i64 ht) := by
      intro tmp w4 g' cap' hn hown' hgrow hv2 hk2 hb2
      refine ⟨(ext_keeps hE4).trans hk2, ⟨_, hv2, ?_⟩, Below.trans (hE.trans' hE4) hb2, box_appended (box_ext h3 hE4) g2 hgrow (by omega) (by omega), box_appended (box_ext h4 hE4) g2 hgrow (by omega) (by omega), box_appended (box_ext h5 hE4) g2 hgrow (by omega) (by omega)⟩
      rw [owns_succ, List.map_append]
      have := hown'.kept (grownBy_setCell' w4 (w.heap.size + 1) (.slice (some ⟨g', 0, none⟩) (k + 1) cap')) (.inr (row_far hown' (by omega)).symm)
      subst hn
      exact this
    have Fin := Lib.hid fin
    clear fin
    refine wpAnyIn_take (i := 1) (v := ?_) rfl rfl (by kernel_rfl) (by kernel_rfl) (by kernel_rfl) (fun _ _ _ h => h) ⟨Or.inl ⟨by rfl, ?_⟩, fun _ => rfl⟩ ?_
    rotate_left
    · intro w; go_simp; rfl
    refine wpAnyIn_take (i := 2) (v := ?_) rfl rfl (by kernel_rfl) (by kernel_rfl) (by kernel_rfl) (fun _ _ _ h => h) ⟨Or.inl ⟨by rfl, ?_⟩, fun _ => rfl⟩ ?_
    rotate_left
    · intro w; go_simp; rfl
    refine wpAnyIn_ready (rs := [0, 3]) (by kernel_rfl) (by simp) (AllReadyIn.cons rfl (fun K hK => ?_) (AllReadyIn.cons rfl (fun K hK => ?_) AllReadyIn.nil))
    · go_simp
      refine hK _ _ (anyIn_of_drop 3 (by rfl) (by kernel_rfl) ?_)
      simp only [List.drop_succ_cons, List.drop_zero]
      gi_wp2_with fail
      refine ⟨trivial, (callsIn_wide.2 (hw5 _ HI3.out)).mono ?_⟩
      rintro e w' ⟨rfl, rfl⟩
      gi_wp2_with (gi_at_builtin; (refine wpListIn_append_own _ rfl _ _ 26 rfl (w.heap.size + 4) 3 i0 (.int .i64 0) 1 8 Try.underlying26 hi hz0 hz1 hz2 rfl (by decide) v k _ rfl (g2.alloc _) ⟨w3.heap.size, 0, none⟩ 1 1 [.int .i64 _] rfl rfl (cell_one_new _ _ _) (by simp [Value.oneCell']) (by unfold maxLen; omega) (by omega) (by simp; omega) ?_); intro v' w4 hown' hgrow _; obtain ⟨g', cap', rfl⟩ := ownsRow_succ hown'; obtain ⟨hv1, hv2, hr2, hk2, hb2⟩ := g1.appended (n₀ := w.heap.size) (by decide) (row_base g2 (by omega)) (by omega) (by omega) (row_base hown' (by omega)) hgrow; have hc1 := hv1.cell; have hf1 := hv1.frozen)
      exact Fin.out _ _ _ _ hn hown' hgrow hv2 hk2 hb2
    · go_simp
      refine ⟨trivial, (callsIn_wide.2 (hw5 _ HI3.out)).mono ?_⟩
      rintro e w' ⟨rfl, rfl⟩
      refine hK _ _ (wpAnyIn_ready (rs := [0, 4]) (by kernel_rfl) (by simp) (AllReadyIn.cons rfl (fun K hK => ?_) (AllReadyIn.cons rfl (fun K hK => ?_) AllReadyIn.nil)))
      · go_simp
        refine hK _ _ (anyIn_of_drop 4 (by rfl) (by kernel_rfl) ?_)
        simp only [List.drop_succ_cons, List.drop_zero]
        gi_wp2_with (gi_at_builtin; (refine wpListIn_append_own _ rfl _ _ 26 rfl (w.heap.size + 4) 3 i0 (.int .i64 0) 1 8 Try.underlying26 hi hz0 hz1 hz2 rfl (by decide) v k _ rfl (g2.alloc _) ⟨w3.heap.size, 0, none⟩ 1 1 [.int .i64 _] rfl rfl (cell_one_new _ _ _) (by simp [Value.oneCell']) (by unfold maxLen; omega) (by omega) (by simp; omega) ?_); intro v' w4 hown' hgrow _; obtain ⟨g', cap', rfl⟩ := ownsRow_succ hown'; obtain ⟨hv1, hv2, hr2, hk2, hb2⟩ := g1.appended (n₀ := w.heap.size) (by decide) (row_base g2 (by omega)) (by omega) (by omega) (row_base hown' (by omega)) hgrow; have hc1 := hv1.cell; have hf1 := hv1.frozen)
        exact Fin.out _ _ _ _ hn hown' hgrow hv2 hk2 hb2
      · go_simp
        refine hK _ _ (wpAnyIn_ready (rs := [0]) (by kernel_rfl) (by simp) (AllReadyIn.cons rfl (fun K hK => ?_) AllReadyIn.nil))
        have gc2 := (g1.alloc (.cells #[.int .i64 (own l wd k)] 3)).cell
        unfold own at gc2
        rw [hn] at gc2
        go_simp
        refine hK _ _ (anyIn_of_drop 5 (by rfl) (by kernel_rfl) ?_)
        simp only [List.drop_succ_cons, List.drop_zero]
        gi_wp2_with (gi_at_builtin; (refine wpListIn_append_own _ rfl _ _ 26 rfl (w.heap.size + 4) 3 i0 (.int .i64 0) 1 8 Try.underlying26 hi hz0 hz1 hz2 rfl (by decide) v k _ rfl (g2.alloc _) ⟨w3.heap.size, 0, none⟩ 1 1 [.int .i64 _] rfl rfl (cell_one_new _ _ _) (by simp [Value.oneCell']) (by unfold maxLen; omega) (by omega) (by simp; omega) ?_); intro v' w4 hown' hgrow _; obtain ⟨g', cap', rfl⟩ := ownsRow_succ hown'; obtain ⟨hv1, hv2, hr2, hk2, hb2⟩ := g1.appended (n₀ := w.heap.size) (by decide) (row_base g2 (by omega)) (by omega) (by omega) (row_base hown' (by omega)) hgrow; have hc1 := hv1.cell; have hf1 := hv1.frozen)
        exact Fin.out _ _ _ _ hn hown' hgrow hv2 hk2 hb2
  case done =>
    rintro D W hD ⟨⟨v, h1, h2⟩, hE, -, -, -⟩ hK
    have hc1 := h1.cell
    go_wp2
    refine ⟨by simp, .inl ⟨_, _, rfl, run_takeDeferred hK, ?_⟩⟩
    exact ⟨_, results_tmp rfl _ _ _, v, rfl, row_base (ownsRow_putObj h2 _ hK rfl) (by omega), ext_putObj hE (by simp at hD; omega) _⟩
  case stop =>
    rintro D c k W _ _ h _
    exact h.elim
end Go.Proofs.Ytodlbgncdggimaa
