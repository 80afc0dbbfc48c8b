/- Contract of the program: Free. -/
import Derived.Maps.AppendAt
import Derived.Test.YtodlbgncdggimaaT23
import Derived.Test.YtodlbgncdggimaaP4
namespace Go.Proofs.Ytodlbgncdggimaa
open Go.RowKit
attribute [local go_sem] GW.cell Oper.semAt_some wide_depth

def arr5 (l : List Site) (x y : Int) : Array Value := #[.int .i64 (pw l x y 0), .int .i64 (pw l x y 1), .int .i64 (pw l x y 2), .int .i64 (pw l x y 3), .int .i64 (pw l x y 4)]
theorem arr5_at {l : List Site} {x y : Int} {j : Nat} (hj : j < 5) : (arr5 l x y)[j]? = some (.int .i64 (pw l x y j)) := by
  match j, hj with
  | 0, _ => rfl
  | 1, _ => rfl
  | 2, _ => rfl
  | 3, _ => rfl
  | 4, _ => rfl
/-- the powers from place q on, read in the array -/
theorem arr5_ints (W : World) (l : List Site) (x y : Int) (T : TypeId) (q : Nat) (h5 : l.length ≤ 5) : Ints (W.alloc (.cells (arr5 l x y) T)) (some ⟨W.heap.size, q, none⟩) ((pows l x y).drop q) := by
  intro j hj
  have hj2 : q + j < l.length := by simp [pows] at hj; omega
  refine ⟨_, _, rfl, by simp, ?_⟩
  have e : ((pows l x y).drop q)[j]?.getD 0 = pw l x y (q + j) := by
    rw [List.getElem?_drop]; exact map_pow_at l x y _
  rw [e]
  simp only [World.cell?, heap_alloc_new]
  simpa [World.cell?] using arr5_at (l := l) (x := x) (y := y) (j := q + j) (by omega)

set_option maxRecDepth 100000 in
set_option maxHeartbeats 4000000 in
theorem f33_c (a : Option Addr) (n c : Nat) (l : List Site) (x y : Int) (w : World) (hl : Sites w a l) (hn : l.length = n) (hlen : n ≤ 140737488355328) :
    Calls Try.prog 33 #[.slice a n c, .int .i64 x, .int .i64 y] w (RetInts (freeL l x y) (errOf (okField l x y)) w) := by
  have hEb := ext_alloc w (.cells #[.slice a n c] 22)
  have b0 := Boxed.new w 22 (.slice a n c)
  have hc := f55_c a n c l x y _ (hl.ext hEb) hn hlen
  rcases errOf_cases2 (okField l x y) with ⟨hok, he⟩ | ⟨hok, he⟩
  · obtain ⟨hos, h1, h2, h3, h4⟩ := okField_bd hok
    have hl5 := okSites_len hos
    have hp := prod_bd h1 h2 h3 h4
    rw [free_ok hok]
    obtain ⟨wd, rfl⟩ := Int.eq_ofNat_of_zero_le (a := x) (by omega)
    obtain ⟨ht, rfl⟩ := Int.eq_ofNat_of_zero_le (a := y) (by omega)
    rw [he] at hc ⊢
    have hN : ((wd : Int) * (ht : Int)) = ((wd * ht : Nat) : Int) := by simp
    have hN2 : wd * ht ≤ 144 := by omega
    obtain ⟨i0, hi, hz0, hz1, hz2⟩ := info_parts info3
    have Hos := Lib.hid hos
    have Hc := Lib.hid hc
    clear hos hc hok he hN
    refine calls_range Try.func33 rfl ?_
    simp only [Try.ntmps33, List.size_toArray, List.length_cons, List.length_nil, Nat.reduceAdd, Nat.reduceSub, Array.replicate_succ, Array.replicate_zero, List.push_toArray, List.append_toArray, List.nil_append, List.cons_append]
    go_wp2_with fail
    refine Hc.out.mono ?_
    rintro e w1 ⟨rfl, hE1⟩
    clear Hc
    have b0 := box_ext b0 hE1
    have hE1 := hEb.trans' hE1
    clear hEb
    go_wp2_with (go_at_call 63; refine (f63_c _ _ _).mono ?_; rintro e w' ⟨rfl, rfl⟩)
    have hs3 := b0.lt
    have e0 := Boxed.new w1 26 (.slice none 0 0)
    have e1 := Boxed.new (w1.alloc (.cells #[.slice none 0 0] 26)) 3 (.int .i64 0)
    have e2 := Boxed.new ((w1.alloc (.cells #[.slice none 0 0] 26)).alloc (.cells #[.int .i64 0] 3)) 3 (.int .i64 wd)
    have e3 := Boxed.new (((w1.alloc (.cells #[.slice none 0 0] 26)).alloc (.cells #[.int .i64 0] 3)).alloc (.cells #[.int .i64 wd] 3)) 3 (.int .i64 ht)
    simp only [World.size_alloc] at e1 e2 e3
    have hE2 := (((hE1.trans' (ext_alloc w1 (.cells #[.slice none 0 0] 26))).trans' (ext_alloc _ (.cells #[.int .i64 0] 3))).trans' (ext_alloc _ (.cells #[.int .i64 wd] 3))).trans' (ext_alloc _ (.cells #[.int .i64 ht] 3))
    refine wp_range (gf := 89) (lb := #[.pointer (some ⟨w1.heap.size + 1 + 1, 0, none⟩), .pointer (some ⟨w1.heap.size + 1 + 1 + 1, 0, none⟩)]) rfl (enters_of Try.func89 (by kernel_rfl) rfl)
      (f89_seq wd ht (by omega) (by omega) (by omega) (w1.heap.size + 1 + 1) (w1.heap.size + 1 + 1 + 1)) (fun _ => rfl)
      (fun k W => Ext w W ∧ Boxed W w.heap.size 22 (.slice a n c) ∧ (∃ v, Boxed W w1.heap.size 26 v ∧ W.ownsRow (w1.heap.size + 4) 3 1 v (freeTo l wd k).length ((freeTo l wd k).map (.int .i64))) ∧
        Boxed W (w1.heap.size + 1) 3 (.int .i64 k) ∧ Boxed W (w1.heap.size + 1 + 1) 3 (.int .i64 wd) ∧ Boxed W (w1.heap.size + 1 + 1 + 1) 3 (.int .i64 ht))
      (fun _ _ _ => False) ?hI (fun _ _ _ _ _ h _ _ => h) (fun k W h => ⟨h.2.2.2.2.1.cell, h.2.2.2.2.2.cell⟩)
      ⟨hE2, (((b0.alloc _).alloc _).alloc _).alloc _, ⟨_, ((e0.alloc _).alloc _).alloc _, World.ownsRow_nil _ _ _ _⟩, (e1.alloc _).alloc _, e2.alloc _, e3⟩
      (fun k => { tmps := #[.slice a n c, .int .i64 wd, .int .i64 ht, .pointer (some ⟨w.heap.size, 0, none⟩), undef, undef, .slice none 0 0, .int .i64 0, .int .i64 0, .pointer (some ⟨w1.heap.size, 0, none⟩), .pointer (some ⟨w1.heap.size + 1, 0, none⟩),
        .int .i64 ((k : Int) % (wd : Int)), .int .i64 ((k : Int) / (wd : Int)), undef, undef, undef, .slice a n c, .int .i64 wd, .int .i64 ht, .int .i64 0, .int .i64 0, .bool false, undef, .int .i64 wd, .int .i64 ht,
        .func (.func 89) #[] #[.pointer (some ⟨w1.heap.size + 1 + 1, 0, none⟩), .pointer (some ⟨w1.heap.size + 1 + 1 + 1, 0, none⟩)], .int .i64 ((k : Int) % (wd : Int)), .int .i64 ((k : Int) / (wd : Int)),
        undef, undef, undef, undef, undef, undef, undef, undef, undef, undef, undef, undef, undef, undef, undef, undef, undef, undef, undef, undef, undef, undef, undef, undef, undef, undef], defers := [] }) ?assign ?body ?done ?stop
    case hI =>
      rintro k X Y row ⟨hE, h0, ⟨v, h1, h2⟩, h3, h4, h5⟩ hg hr
      exact ⟨ext_keep hE hg (by simp; omega) hr, box_keep h0 hg hr, ⟨v, box_keep h1 hg hr, row_keep h2 hg hr⟩, box_keep h3 hg hr, box_keep h4 hg hr, box_keep h5 hg hr⟩
    case assign =>
      intro l x W K hK
      unfold pix
      gi_wp2
      exact hK
    case body =>
      rintro l0 k W ⟨hE, h0, ⟨v, h1, h2⟩, h3, h4, h5⟩ hk
      have hc0 := h0.cell
      gi_wp2_with fail
      refine ⟨trivial, (CallsIn.inRound l0 (callsIn_wide.2 (f64_c a n c l _ _ _ (hl.ext hE) hn Hos.out (pix_in (by omega) (by omega) (by omega) hk)))).mono ?_⟩
      rintro e w2 ⟨rfl, hE3⟩
      obtain ⟨i, -, ho⟩ := own_is l wd k Hos.out
      have hil := ho.1
      have hix := idx_own ho
      have hmr := many_rest ho
      have g0 := box_ext h0 hE3
      have hc0 := g0.cell
      have lt0 := g0.lt
      have hn5 : (n : Int) ≤ 5 := by omega
      have hn0 : (0 : Int) ≤ (n : Int) := by omega
      have hi0' : (0 : Int) ≤ (i : Int) + 1 := by omega
      have hi1' : (i : Int) + 1 ≤ (n : Int) := by omega
      clear ho
      gi_wp2_with fail
      have hE4 := ext_alloc w2 (.cells (arr5 l ((k : Int) % (wd : Int)) ((k : Int) / (wd : Int))) 86)
      have hI0 := arr5_ints w2 l ((k : Int) % (wd : Int)) ((k : Int) / (wd : Int)) 86 0 (by omega)
      have hI1 := arr5_ints w2 l ((k : Int) % (wd : Int)) ((k : Int) / (wd : Int)) 86 (i + 1) (by omega)
      rw [List.drop_zero] at hI0
      unfold arr5 at hE4 hI0 hI1
      obtain ⟨W3, hW3⟩ : ∃ W3, W3 = w2.alloc (.cells #[.int .i64 (pw l ((k : Int) % (wd : Int)) ((k : Int) / (wd : Int)) 0), .int .i64 (pw l ((k : Int) % (wd : Int)) ((k : Int) / (wd : Int)) 1), .int .i64 (pw l ((k : Int) % (wd : Int)) ((k : Int) / (wd : Int)) 2), .int .i64 (pw l ((k : Int) % (wd : Int)) ((k : Int) / (wd : Int)) 3), .int .i64 (pw l ((k : Int) % (wd : Int)) ((k : Int) / (wd : Int)) 4)] 86) := ⟨_, rfl⟩
      rw [← hW3] at hE4 hI0 hI1 ⊢
      have hE5 := hE3.trans' hE4
      clear hW3
      have hc0 := (box_ext h0 hE5).cell
      refine ⟨trivial, (CallsIn.inRound l0 (callsIn_wide.2 (f72_c (minTo (l.map fun s => pow s ((k : Int) % (wd : Int)) ((k : Int) / (wd : Int))) n) (some ⟨w2.heap.size, 0, none⟩) n 5 (pows l ((k : Int) % (wd : Int)) ((k : Int) / (wd : Int))) W3 hI0 (by simpa [pows] using hn) (by omega)))).mono ?_⟩
      rintro e w3 ⟨rfl, rfl⟩
      have hix2 : idxOf (minTo (l.map fun s => pow s ((k : Int) % (wd : Int)) ((k : Int) / (wd : Int))) n) (pows l ((k : Int) % (wd : Int)) ((k : Int) / (wd : Int))) = i := by rw [← hix, ← hn]; rfl
      rw [hix2]
      have hmr2 : ((pows l ((k : Int) % (wd : Int)) ((k : Int) / (wd : Int))).drop (i + 1)).any (fun z => minTo (l.map fun s => pow s ((k : Int) % (wd : Int)) ((k : Int) / (wd : Int))) n == z) = decide (1 < cntP l (pxx wd k) (pxy wd k)) := by
        have := hmr
        rw [← hn]
        exact this
      have hIn : ∀ j, j < ((pows l ((k : Int) % (wd : Int)) ((k : Int) / (wd : Int))).drop (i + 1)).length → i < 4 := fun j hj => by simp [pows] at hj; omega
      have hdl : ((pows l ((k : Int) % (wd : Int)) ((k : Int) / (wd : Int))).drop (i + 1)).length = n - (i + 1) := by simp [pows, hn]
      have g1 := box_ext h1 hE5
      have r2 := row_ext h2 hE5
      have g3 := box_ext h3 hE5
      have g4 := box_ext h4 hE5
      have g5 := box_ext h5 hE5
      have g0 := box_ext h0 hE5
      have hfl := freeTo_len l wd k
      have hE6 := hE.trans' hE5
      have hsz6 := hE6.size
      have Hmr := Lib.hid hmr2
      have HIn := Lib.hid hIn
      have Hdl := Lib.hid hdl
      have Hkeep := Lib.hid (ext_keeps hE5)
      clear hix hix2 hmr hmr2 hIn hdl
      have hc1 := g1.cell
      have hf1 := g1.frozen
      have lt1 := g1.lt
      have hc3 := g3.cell
      have hf3 := g3.frozen
      have lt3 := g3.lt
      gi_wp2_with fail
      all_goals
        refine ⟨trivial, (CallsIn.inRound l0 (callsIn_wide.2 (f73_c _ _ _ _ ((pows l ((k : Int) % (wd : Int)) ((k : Int) / (wd : Int))).drop (i + 1)) W3 (by first | exact hI1 | exact fun j hj => by have := HIn.out j hj; omega) (by rw [Hdl.out] <;> omega) (by omega)))).mono ?_⟩
        rintro e w4 ⟨rfl, rfl⟩
        rw [Hmr.out]
        by_cases hq : 1 < cntP l (pxx wd k) (pxy wd k)
        · have d1 : decide (1 < cntP l (pxx wd k) (pxy wd k)) = true := by simpa using hq
          have Hq := Lib.hid (freeTo_yes hq)
          rw [d1]
          clear d1 hq
          have lt5 := g5.lt
          have hlt4 : (freeTo l wd k).length ≤ 144 := by omega
          gi_wp2_with (gi_at_builtin; (refine wpListIn_append_own _ rfl _ _ 26 rfl (w1.heap.size + 4) 3 i0 (.int .i64 0) 1 8 Try.underlying26 hi hz0 hz1 hz2 rfl (by decide) v (freeTo l wd k).length _ rfl (r2.alloc _) ⟨W3.heap.size, 0, none⟩ 1 1 [.int .i64 k] rfl rfl (cell_one_new _ _ _) (by simp [Value.oneCell']) (by unfold maxLen; omega) (by omega) (by simp; omega) ?_); intro v' w4 hown' hgrow _; obtain ⟨g', cap', rfl⟩ := ownsRow_succ hown'; obtain ⟨hv1, hv2, hr2, hk2, hb2⟩ := g1.appended (n₀ := w.heap.size) (by decide) (row_base r2 (by omega)) (by omega) (by omega) (row_base hown' (by omega)) hgrow; have hc1' := hv1.cell; have hf1' := hv1.frozen; have q3 := (g3.alloc (.cells #[.int .i64 (k : Int)] 3)).kept hgrow (row_far r2 (by omega)); have hc3' := q3.cell; have hf3' := q3.frozen; clear hc1 hf1 hc3 hf3)
          have e5 : Boxed ((w4.setCell ⟨w1.heap.size, 0, none⟩ (.slice (some ⟨g', 0, none⟩) ((freeTo l wd k).length + 1) cap')).setCell ⟨w1.heap.size + 1, 0, none⟩ (.int .i64 ((k : Int) + 1))) (w1.heap.size + 1) 3 (.int .i64 ((k + 1 : Nat) : Int)) := by
            rw [show ((k + 1 : Nat) : Int) = (k : Int) + 1 by omega]; exact (q3.other (by omega) _).set _
          refine ⟨(Hkeep.out.trans hk2).trans (KeepsOthers.setCell _ _ _), (Below.trans hE6 hb2).setCell (show w.heap.size ≤ w1.heap.size + 1 by omega) _, (box_appended g0 r2 hgrow (by omega) (by omega)).other (by omega) _, ⟨_, hv2.other (by omega) _, ?_⟩, e5, (box_appended g4 r2 hgrow (by omega) (by omega)).other (by omega) _, (box_appended g5 r2 hgrow (by omega) (by omega)).other (by omega) _⟩
          rw [Hq.out, List.map_append, List.length_append]
          have hA := hown'.kept (grownBy_setCell' w4 w1.heap.size (.slice (some ⟨g', 0, none⟩) ((freeTo l wd k).length + 1) cap')) (.inr (row_far hown' (by omega)).symm)
          exact hA.kept (grownBy_setCell' _ (w1.heap.size + 1) _) (.inr (row_far hown' (by omega)).symm)
        · have d1 : decide (1 < cntP l (pxx wd k) (pxy wd k)) = false := by simpa using hq
          have Hq := Lib.hid (freeTo_not hq)
          rw [d1]
          clear d1 hq
          gi_wp2_with fail
          have e5 : Boxed (W3.setCell ⟨w1.heap.size + 1, 0, none⟩ (.int .i64 ((k : Int) + 1))) (w1.heap.size + 1) 3 (.int .i64 ((k + 1 : Nat) : Int)) := by
            rw [show ((k + 1 : Nat) : Int) = (k : Int) + 1 by omega]; exact g3.set _
          exact ⟨Hkeep.out.trans (KeepsOthers.setCell _ _ _), hE6.setCell (show w.heap.size ≤ w1.heap.size + 1 by omega) _, g0.other (by omega) _, ⟨v, g1.other (by omega) _, by rw [Hq.out]; exact r2.kept (grownBy_setCell' W3 (w1.heap.size + 1) _) (.inr (row_far r2 (by omega)).symm)⟩, e5, g4.other (by omega) _, g5.other (by omega) _⟩
    case done =>
      rintro D W hD ⟨hE, h0, ⟨v, h1, h2⟩, h3, h4, h5⟩ hK
      have hc1 := h1.cell
      go_wp2
      refine ⟨by simp, .inl ⟨_, _, rfl, run_takeDeferred hK, ?_⟩⟩
      obtain ⟨ad, cp, rfl, hI⟩ := ints_of_row (ownsRow_putObj h2 (.deferred none) hK rfl)
      exact ⟨_, results_tmp2 rfl _ _ _, ad, cp, rfl, hI, ext_putObj hE (by simp at hD; omega) _⟩
    case stop =>
      rintro D c k W _ _ h _
      exact h.elim
  · rw [free_no hok]
    rw [he] at hc ⊢
    have Hc := Lib.hid hc
    clear hc hok he
    refine calls_range Try.func33 rfl ?_
    simp only [Try.ntmps33, List.size_toArray, List.length_cons, List.length_nil, Nat.reduceAdd, Nat.reduceSub, Array.replicate_succ, Array.replicate_zero, List.push_toArray, List.append_toArray, List.nil_append, List.cons_append]
    go_wp2_with fail
    refine Hc.out.mono ?_
    rintro e w1 ⟨rfl, hE1⟩
    clear Hc
    go_wp2_with fail
    exact ⟨_, results_tmp2 rfl _ _ _, retI_nil (hEb.trans' hE1)⟩
end Go.Proofs.Ytodlbgncdggimaa
