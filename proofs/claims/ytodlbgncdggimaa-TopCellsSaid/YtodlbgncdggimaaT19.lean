/- Contract of the program: Fits. -/
import Derived.Test.YtodlbgncdggimaaT18
namespace Go.Proofs.Ytodlbgncdggimaa
open Go.RowKit
attribute [local go_sem] GW.cell Oper.semAt_some wide_depth

set_option maxRecDepth 100000 in
set_option maxHeartbeats 4000000 in
theorem f25_c (a b : Option Addr) (n c m d : Nat) (l : List Site) (O : List Int) (x y : Int) (w : World) (hl : Sites w a l) (hO : Ints w b O) (hn : l.length = n) (hm : O.length = m) (hlen : n ≤ 140737488355328) (hlm : m ≤ 140737488355328) :
    Calls Try.prog 25 #[.slice a n c, .int .i64 x, .int .i64 y, .slice b m d] w (RetB (fitsVal l x y O) (errOf (okOwned l x y O)) w) := by
  have hEb : Ext w ((((w.alloc (.cells #[.slice a n c] 22)).alloc (.cells #[.slice b m d] 26)).alloc (.cells #[.bool false] 4)).alloc (.cells #[.int .i64 0] 27)) :=
    (((Below.refl _ w).alloc (Nat.le_refl _) _).alloc (by simp) _).alloc (by simp; omega) _ |>.alloc (by simp; omega) _
  obtain ⟨W0, hW0⟩ : ∃ W0, W0 = ((((w.alloc (.cells #[.slice a n c] 22)).alloc (.cells #[.slice b m d] 26)).alloc (.cells #[.bool false] 4)).alloc (.cells #[.int .i64 0] 27)) := ⟨_, rfl⟩
  have b0 := (((Boxed.new w 22 (.slice a n c)).alloc (.cells #[.slice b m d] 26)).alloc (.cells #[.bool false] 4)).alloc (.cells #[.int .i64 0] 27)
  have b1 := ((Boxed.new (w.alloc (.cells #[.slice a n c] 22)) 26 (.slice b m d)).alloc (.cells #[.bool false] 4)).alloc (.cells #[.int .i64 0] 27)
  have b2 := (Boxed.new ((w.alloc (.cells #[.slice a n c] 22)).alloc (.cells #[.slice b m d] 26)) 4 (.bool false)).alloc (.cells #[.int .i64 0] 27)
  have b3 := Boxed.new (((w.alloc (.cells #[.slice a n c] 22)).alloc (.cells #[.slice b m d] 26)).alloc (.cells #[.bool false] 4)) 27 (.int .i64 0)
  rw [← hW0] at hEb b0 b1 b2 b3
  simp only [World.size_alloc] at b1 b2 b3
  have hc := f62_c a b n c m d l O x y W0 (hl.ext hEb) (hO.ext hEb) hn hm hlen hlm
  rcases Bool.eq_false_or_eq_true (okOwned l x y O) with hok | hok
  · obtain ⟨hf, hq, hno⟩ := owned_spec hok
    obtain ⟨hos, h1, h2, h3, h4⟩ := okField_bd hf
    have hp := prod_bd h1 h2 h3 h4
    obtain ⟨wd, rfl⟩ := Int.eq_ofNat_of_zero_le (a := x) (by omega)
    obtain ⟨ht, rfl⟩ := Int.eq_ofNat_of_zero_le (a := y) (by omega)
    have he : errOf (okOwned l wd ht O) = 0 := by rw [hok]; rfl
    have hv : fitsVal l wd ht O = fitsB l wd O := by rw [fitsVal, hok]; simp
    rw [he] at hc
    rw [he, hv]
    have hN : wd * ht = O.length := by
      have : ((wd * ht : Nat) : Int) = (O.length : Int) := by rw [hq]; simp
      omega
    have hO144 : O.length ≤ 144 := by omega
    have hl5 := okSites_len hos
    have Hno := Lib.hid hno
    have Hos := Lib.hid hos
    have Hc := Lib.hid hc
    have HN := Lib.hid hN
    have HW0 := Lib.hid hW0
    have c0 := Lib.hid b0.cell
    have c1 := Lib.hid b1.cell
    clear hno hos hc hf hq hok he hv hN hW0
    refine calls_range Try.func25 rfl ?_
    simp only [Try.ntmps25, List.size_toArray, List.length_cons, List.length_nil, Nat.reduceAdd, Nat.reduceSub, Array.replicate_succ, Array.replicate_zero, List.push_toArray, List.append_toArray, List.nil_append, List.cons_append]
    go_wp2_with fail
    rw [← HW0.out]
    refine Hc.out.mono ?_
    rintro e w1 ⟨rfl, hE1⟩
    clear Hc HW0
    have b0 := box_ext b0 hE1
    have b1 := box_ext b1 hE1
    have b2 := box_ext b2 hE1
    have b3 := box_ext b3 hE1
    have hE1 := hEb.trans' hE1
    clear hEb c0 c1
    go_wp2_with (go_at_call 63; refine (f63_c _ _ _).mono ?_; rintro e w' ⟨rfl, rfl⟩)
    have hs3 := b3.lt
    have e0 := Boxed.new w1 3 (.int .i64 0)
    have e1 := Boxed.new (w1.alloc (.cells #[.int .i64 0] 3)) 3 (.int .i64 wd)
    have e2 := Boxed.new ((w1.alloc (.cells #[.int .i64 0] 3)).alloc (.cells #[.int .i64 wd] 3)) 3 (.int .i64 ht)
    simp only [World.size_alloc] at e1 e2
    have hE2 := ((hE1.trans' (ext_alloc w1 (.cells #[.int .i64 0] 3))).trans' (ext_alloc _ (.cells #[.int .i64 wd] 3))).trans' (ext_alloc _ (.cells #[.int .i64 ht] 3))
    refine wp_range (gf := 89) (lb := #[.pointer (some ⟨w1.heap.size + 1, 0, none⟩), .pointer (some ⟨w1.heap.size + 1 + 1, 0, none⟩)]) rfl (enters_of Try.func89 (by kernel_rfl) rfl)
      (f89_seq wd ht (by omega) (by omega) (by omega) (w1.heap.size + 1) (w1.heap.size + 1 + 1)) (fun _ => rfl)
      (fun k W => Ext w W ∧ Boxed W w.heap.size 22 (.slice a n c) ∧ Boxed W (w.heap.size + 1) 26 (.slice b m d) ∧ Boxed W (w.heap.size + 1 + 1) 4 (.bool false) ∧ Boxed W (w.heap.size + 1 + 1 + 1) 27 (.int .i64 0) ∧
        Boxed W w1.heap.size 3 (.int .i64 k) ∧ Boxed W (w1.heap.size + 1) 3 (.int .i64 wd) ∧ Boxed W (w1.heap.size + 1 + 1) 3 (.int .i64 ht) ∧ Hid (∀ j, j < k → fitAt l wd O j))
      (fun cd _ W => cd = .ret ∧ Ext w W ∧ Boxed W (w.heap.size + 1 + 1) 4 (.bool false) ∧ Boxed W (w.heap.size + 1 + 1 + 1) 27 (.int .i64 0) ∧ Hid (fitsB l wd O = false)) ?hI ?hIx (fun k W h => ⟨h.2.2.2.2.2.2.1.cell, h.2.2.2.2.2.2.2.1.cell⟩)
      ⟨hE2, ((b0.alloc _).alloc _).alloc _, ((b1.alloc _).alloc _).alloc _, ((b2.alloc _).alloc _).alloc _, ((b3.alloc _).alloc _).alloc _, (e0.alloc _).alloc _, e1.alloc _, e2, fun j hj => by omega⟩
      (fun k => { tmps := #[.slice a n c, .int .i64 wd, .int .i64 ht, .slice b m d, .pointer (some ⟨w.heap.size, 0, none⟩), undef, undef, .pointer (some ⟨w.heap.size + 1, 0, none⟩), .pointer (some ⟨w.heap.size + 1 + 1, 0, none⟩), .pointer (some ⟨w.heap.size + 1 + 1 + 1, 0, none⟩), .int .i64 0,
        .pointer (some ⟨w1.heap.size, 0, none⟩), .int .i64 ((k : Int) % (wd : Int)), .int .i64 ((k : Int) / (wd : Int)), undef, undef, .slice a n c, .int .i64 wd, .int .i64 ht, .slice b m d, .int .i64 0, .int .i64 0, .bool false, undef, .int .i64 wd, .int .i64 ht,
        .func (.func 89) #[] #[.pointer (some ⟨w1.heap.size + 1, 0, none⟩), .pointer (some ⟨w1.heap.size + 1 + 1, 0, none⟩)], .int .i64 ((k : Int) % (wd : Int)), .int .i64 ((k : Int) / (wd : Int)), undef, undef, undef, undef, undef, undef, undef, undef, undef, undef, undef, undef, undef, undef, undef, undef, undef], defers := [] }) ?assign ?body ?done ?stop
    case hI =>
      rintro k X Y row ⟨hE, h0, h1, h2, h3, h4, h5, h6, h7⟩ hg hr
      exact ⟨ext_keep hE hg (by simp; omega) hr, box_keep h0 hg hr, box_keep h1 hg hr, box_keep h2 hg hr, box_keep h3 hg hr, box_keep h4 hg hr, box_keep h5 hg hr, box_keep h6 hg hr, h7⟩
    case hIx =>
      rintro cd k X Y row ⟨hcd, hE, h2, h3, h7⟩ hg hr
      exact ⟨hcd, ext_keep hE hg (by simp; omega) hr, box_keep h2 hg hr, box_keep h3 hg hr, h7⟩
    case assign =>
      intro l x W K hK
      unfold pix
      gi_wp2
      exact hK
    case body =>
      rintro l0 k W ⟨hE, h0, h1, h2, h3, h4, h5, h6, h7⟩ hk
      have hc0 := h0.cell
      gi_wp2_with fail
      refine ⟨trivial, (CallsIn.inRound l0 (callsIn_wide.2 (f64_c a n c l _ _ _ (hl.ext hE) hn Hos.out (pix_in (by omega) (by omega) (by omega) hk)))).mono ?_⟩
      rintro e w2 ⟨rfl, hE3⟩
      have hkO : k < O.length := by rw [HN.out] at hk; exact hk
      obtain ⟨i, hi, hil⟩ := Hno.out k hkO
      have hfa : fitAt l wd O k ↔ pw l ((k : Int) % (wd : Int)) ((k : Int) / (wd : Int)) i = minTo (l.map fun s => pow s ((k : Int) % (wd : Int)) ((k : Int) / (wd : Int))) n := by
        unfold fitAt
        rw [List.getElem?_eq_getElem hkO, Option.getD_some, hi, Int.toNat_natCast, ← hn]
        rfl
      have Hfa := Lib.hid hfa
      clear hfa
      have hi5 : (i : Int) < 5 := by omega
      have hin : (i : Int) < n := by omega
      have hkm : k < m := by omega
      have hE4 := hE.trans' hE3
      have g1 := box_ext h1 hE3
      have g5 := box_ext h4 hE3
      obtain ⟨bO, oO, rfl, hbO, hcO⟩ := hO.ext hE4 k hkO
      rw [List.getElem?_eq_getElem hkO, Option.getD_some, hi] at hcO
      have hc1 := g1.cell
      have hc5 := g5.cell
      have lt1 := g1.lt
      have lt5 := g5.lt
      have hcA : ([.int .i64 (pw l ((k : Int) % (wd : Int)) ((k : Int) / (wd : Int)) 0), .int .i64 (pw l ((k : Int) % (wd : Int)) ((k : Int) / (wd : Int)) 1), .int .i64 (pw l ((k : Int) % (wd : Int)) ((k : Int) / (wd : Int)) 2), .int .i64 (pw l ((k : Int) % (wd : Int)) ((k : Int) / (wd : Int)) 3), .int .i64 (pw l ((k : Int) % (wd : Int)) ((k : Int) / (wd : Int)) 4)] : List Value)[i]? = some (.int .i64 (pw l ((k : Int) % (wd : Int)) ((k : Int) / (wd : Int)) i)) := by
        match i, hi5 with
        | 0, _ => rfl
        | 1, _ => rfl
        | 2, _ => rfl
        | 3, _ => rfl
        | 4, _ => rfl
        | n + 5, h => omega
      have g2 := box_ext h2 hE3
      have g3 := box_ext h3 hE3
      have hc2 := g2.cell
      have hf2 := g2.frozen
      have lt2 := g2.lt
      have hc3 := g3.cell
      have hf3 := g3.frozen
      have lt3 := g3.lt
      have hf5 := g5.frozen
      by_cases heq : pw l ((k : Int) % (wd : Int)) ((k : Int) / (wd : Int)) i = minTo (l.map fun s => pow s ((k : Int) % (wd : Int)) ((k : Int) / (wd : Int))) n
      · have hb : (pw l ((k : Int) % (wd : Int)) ((k : Int) / (wd : Int)) i != minTo (l.map fun s => pow s ((k : Int) % (wd : Int)) ((k : Int) / (wd : Int))) n) = false := by simp [heq]
        have Heq := Lib.hid heq
        clear heq
        gi_wp2_with fail
        have e5 : Boxed (w2.setCell ⟨w1.heap.size, 0, none⟩ (.int .i64 ((k : Int) + 1))) w1.heap.size 3 (.int .i64 ((k + 1 : Nat) : Int)) := by
          rw [show ((k + 1 : Nat) : Int) = (k : Int) + 1 by omega]; exact g5.set _
        refine ⟨((ext_keeps hE3).trans (KeepsOthers.setCell _ _ _)).trans (KeepsOthers.alloc _ _), (hE4.setCell (show w.heap.size ≤ w1.heap.size by omega) _).alloc (by simp; omega) _,
          ((box_ext h0 hE3).other (by omega) _).alloc _, (g1.other (by omega) _).alloc _, (g2.other (by omega) _).alloc _, (g3.other (by omega) _).alloc _, e5.alloc _,
          ((box_ext h5 hE3).other (by omega) _).alloc _, ((box_ext h6 hE3).other (by omega) _).alloc _, fun j hj => ?_⟩
        by_cases e : j = k
        · subst e; exact Hfa.out.2 Heq.out
        · exact h7.out j (by omega)
      · have hb : (pw l ((k : Int) % (wd : Int)) ((k : Int) / (wd : Int)) i != minTo (l.map fun s => pow s ((k : Int) % (wd : Int)) ((k : Int) / (wd : Int))) n) = true := by simp [heq]
        have Heq := Lib.hid heq
        clear heq
        gi_wp2_with fail
        exact ⟨(((ext_keeps hE3).trans (KeepsOthers.setCell _ _ _)).trans (KeepsOthers.setCell _ _ _)).trans (KeepsOthers.alloc _ _), rfl, ((hE4.setCell (show w.heap.size ≤ w.heap.size + 1 + 1 by omega) _).setCell (show w.heap.size ≤ w.heap.size + 1 + 1 + 1 by omega) _).alloc (by simp; omega) _,
          ((g2.set _).other (by omega) _).alloc _, ((g3.other (by omega) _).set _).alloc _, fitsB_no hkO (fun h => Heq.out (Hfa.out.1 h))⟩
    case done =>
      rintro D W hD ⟨hE, h0, h1, h2, h3, h4, h5, h6, h7⟩ hK
      have hc2 := h2.cell
      have hf2 := h2.frozen
      have hc3 := h3.cell
      have hf3 := h3.frozen
      go_wp2
      have hD2 : w1.heap.size ≤ D := by simp at hD; omega
      have hK2 : ((W.setCell ⟨w.heap.size + 1 + 1, 0, none⟩ (.bool true)).setCell ⟨w.heap.size + 1 + 1 + 1, 0, none⟩ (.int .i64 0)).heap[D]? = some (.deferred (some [])) :=
        (Below.heap_setCell _ ⟨_, 0, none⟩ _ D (by show D ≠ w.heap.size + 1 + 1 + 1; omega)).trans ((Below.heap_setCell _ ⟨_, 0, none⟩ _ D (by show D ≠ w.heap.size + 1 + 1; omega)).trans hK)
      have j2 := box_putObj ((h2.set (.bool true)).other (show w.heap.size + 1 + 1 ≠ w.heap.size + 1 + 1 + 1 by omega) (.int .i64 0)) (l := D) (by omega) (.deferred none)
      have j3 := box_putObj ((h3.other (show w.heap.size + 1 + 1 + 1 ≠ w.heap.size + 1 + 1 by omega) (.bool true)).set (.int .i64 0)) (l := D) (by omega) (.deferred none)
      refine ⟨by simp, .inl ⟨_, _, rfl, run_takeDeferred hK2, ?_⟩⟩
      have q2 := j2.cell
      have q3 := j3.cell
      refine ⟨.tuple #[.bool true, .int .i64 0], by simp [results, Try.results25, go_sem, q2, q3], ?_, ext_putObj ((hE.setCell (show w.heap.size ≤ w.heap.size + 1 + 1 by omega) _).setCell (show w.heap.size ≤ w.heap.size + 1 + 1 + 1 by omega) _) (by omega) _⟩
      rw [fitsB_yes (fun j hj => h7.out j (by rw [HN.out]; exact hj))]
    case stop =>
      rintro D cd k W hD hk ⟨rfl, hE, h2, h3, h7⟩ hK
      go_wp2
      have hD2 : w1.heap.size ≤ D := by simp at hD; omega
      refine ⟨by simp, .inl ⟨_, _, rfl, run_takeDeferred hK, ?_⟩⟩
      have q2 := (box_putObj h2 (l := D) (by omega) (.deferred none)).cell
      have q3 := (box_putObj h3 (l := D) (by omega) (.deferred none)).cell
      refine ⟨.tuple #[.bool false, .int .i64 0], by simp [results, Try.results25, go_sem, q2, q3], ?_, ext_putObj hE (by omega) _⟩
      rw [h7.out]
  · have he : errOf (okOwned l x y O) = 1 := by rw [hok]; rfl
    have hv : fitsVal l x y O = false := by rw [fitsVal, hok]; rfl
    rw [he] at hc
    rw [he, hv]
    have Hc := Lib.hid hc
    have HW0 := Lib.hid hW0
    clear hc hok he hv hW0
    refine calls_range Try.func25 rfl ?_
    simp only [Try.ntmps25, List.size_toArray, List.length_cons, List.length_nil, Nat.reduceAdd, Nat.reduceSub, Array.replicate_succ, Array.replicate_zero, List.push_toArray, List.append_toArray, List.nil_append, List.cons_append]
    go_wp2_with fail
    rw [← HW0.out]
    refine Hc.out.mono ?_
    rintro e w1 ⟨rfl, hE1⟩
    clear Hc HW0
    have b2 := box_ext b2 hE1
    have b3 := box_ext b3 hE1
    have hE1 := hEb.trans' hE1
    have hc2 := b2.cell
    have hf2 := b2.frozen
    have hc3 := b3.cell
    have hf3 := b3.frozen
    go_wp2_with fail
    have q2 := ((b2.set (.bool false)).other (show w.heap.size + 1 + 1 ≠ w.heap.size + 1 + 1 + 1 by omega) (.int .i64 1)).cell
    have q3 := ((b3.other (show w.heap.size + 1 + 1 + 1 ≠ w.heap.size + 1 + 1 by omega) (.bool false)).set (.int .i64 1)).cell
    refine ⟨.tuple #[.bool false, .int .i64 1], by simp [results, Try.results25, go_sem, q2, q3], rfl, (hE1.setCell (show w.heap.size ≤ w.heap.size + 1 + 1 by omega) _).setCell (show w.heap.size ≤ w.heap.size + 1 + 1 + 1 by omega) _⟩
end Go.Proofs.Ytodlbgncdggimaa
