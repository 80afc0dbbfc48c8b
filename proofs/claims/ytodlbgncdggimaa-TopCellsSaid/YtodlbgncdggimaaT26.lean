/- Contract of the program: cost. -/
import Derived.Test.YtodlbgncdggimaaT25
namespace Go.Proofs.Ytodlbgncdggimaa
open Go.RowKit
attribute [local go_sem] GW.cell Oper.semAt_some wide_depth

set_option maxRecDepth 100000 in
set_option maxHeartbeats 4000000 in
theorem f74_c (a b : Option Addr) (n c m d : Nat) (l : List Site) (O : List Int) (wd ht : Nat) (w : World) (hl : Sites w a l) (hO : Ints w b O) (hn : l.length = n) (hm : O.length = m) (hok : okSites l = true) (hw1 : 1 ≤ wd) (hw2 : wd ≤ 12) (hh : ht ≤ 12) (hN : wd * ht = O.length)
    (hin : ∀ j (hj : j < O.length), ∃ i : Nat, O[j] = i ∧ i < l.length) :
    Calls Try.prog 74 #[.slice a n c, .int .i64 wd, .int .i64 ht, .slice b m d] w fun e w' => e = .returned (.int .i64 (costTo l wd O m)) ∧ Ext w w' := by
  have h144 : O.length ≤ 144 := by rw [← hN]; exact Nat.le_trans (Nat.mul_le_mul hw2 hh) (by omega)
  have hbd := costTo_bd hok hw1 hw2 hin
  have hl5 := okSites_len hok
  have Hst := Lib.hid (fun i (h : i < l.length) => okSites_at hok h)
  have Hin := Lib.hid hin
  have Hbd := Lib.hid hbd
  have HN := Lib.hid hN
  clear hin hbd hok hN
  refine calls_range Try.func74 rfl ?_
  simp only [Try.ntmps74, List.size_toArray, List.length_cons, List.length_nil, Nat.reduceAdd, Nat.reduceSub, Array.replicate_succ, Array.replicate_zero, List.push_toArray, List.append_toArray, List.nil_append, List.cons_append]
  go_wp2_with (go_at_call 63; refine (f63_c _ _ _).mono ?_; rintro e w' ⟨rfl, rfl⟩)
  have b0 := Boxed.new w 22 (.slice a n c)
  have b1 := Boxed.new (w.alloc (.cells #[.slice a n c] 22)) 26 (.slice b m d)
  have b2 := Boxed.new ((w.alloc (.cells #[.slice a n c] 22)).alloc (.cells #[.slice b m d] 26)) 3 (.int .i64 0)
  have b3 := Boxed.new (((w.alloc (.cells #[.slice a n c] 22)).alloc (.cells #[.slice b m d] 26)).alloc (.cells #[.int .i64 0] 3)) 3 (.int .i64 0)
  have b4 := Boxed.new ((((w.alloc (.cells #[.slice a n c] 22)).alloc (.cells #[.slice b m d] 26)).alloc (.cells #[.int .i64 0] 3)).alloc (.cells #[.int .i64 0] 3)) 3 (.int .i64 wd)
  have b5 := Boxed.new (((((w.alloc (.cells #[.slice a n c] 22)).alloc (.cells #[.slice b m d] 26)).alloc (.cells #[.int .i64 0] 3)).alloc (.cells #[.int .i64 0] 3)).alloc (.cells #[.int .i64 wd] 3)) 3 (.int .i64 ht)
  simp only [World.size_alloc] at b1 b2 b3 b4 b5
  have hE0 := (((((ext_alloc w (.cells #[.slice a n c] 22)).trans' (ext_alloc _ (.cells #[.slice b m d] 26))).trans' (ext_alloc _ (.cells #[.int .i64 0] 3))).trans' (ext_alloc _ (.cells #[.int .i64 0] 3))).trans' (ext_alloc _ (.cells #[.int .i64 wd] 3))).trans' (ext_alloc _ (.cells #[.int .i64 ht] 3))
  refine wp_range (gf := 89) (lb := #[.pointer (some ⟨w.heap.size + 1 + 1 + 1 + 1, 0, none⟩), .pointer (some ⟨w.heap.size + 1 + 1 + 1 + 1 + 1, 0, none⟩)]) rfl (enters_of Try.func89 (by kernel_rfl) rfl)
    (f89_seq wd ht (by omega) (by omega) (by omega) (w.heap.size + 1 + 1 + 1 + 1) (w.heap.size + 1 + 1 + 1 + 1 + 1)) (fun _ => rfl)
    (fun k W => Ext w W ∧ Boxed W w.heap.size 22 (.slice a n c) ∧ Boxed W (w.heap.size + 1) 26 (.slice b m d) ∧ Boxed W (w.heap.size + 1 + 1) 3 (.int .i64 k) ∧ Boxed W (w.heap.size + 1 + 1 + 1) 3 (.int .i64 (costTo l wd O k)) ∧
      Boxed W (w.heap.size + 1 + 1 + 1 + 1) 3 (.int .i64 wd) ∧ Boxed W (w.heap.size + 1 + 1 + 1 + 1 + 1) 3 (.int .i64 ht))
    (fun _ _ _ => False) ?hI (fun _ _ _ _ _ h _ _ => h) (fun k W h => ⟨h.2.2.2.2.2.1.cell, h.2.2.2.2.2.2.cell⟩)
    ⟨hE0, ((((b0.alloc _).alloc _).alloc _).alloc _).alloc _, (((b1.alloc _).alloc _).alloc _).alloc _, ((b2.alloc _).alloc _).alloc _, (b3.alloc _).alloc _, b4.alloc _, b5⟩
    (fun k => { tmps := #[.slice a n c, .int .i64 wd, .int .i64 ht, .slice b m d, .pointer (some ⟨w.heap.size, 0, none⟩), undef, undef, .pointer (some ⟨w.heap.size + 1, 0, none⟩), .int .i64 0, .pointer (some ⟨w.heap.size + 1 + 1, 0, none⟩), .pointer (some ⟨w.heap.size + 1 + 1 + 1, 0, none⟩),
      .int .i64 ((k : Int) % (wd : Int)), .int .i64 ((k : Int) / (wd : Int)), .int .i64 wd, .int .i64 ht, .func (.func 89) #[] #[.pointer (some ⟨w.heap.size + 1 + 1 + 1 + 1, 0, none⟩), .pointer (some ⟨w.heap.size + 1 + 1 + 1 + 1 + 1, 0, none⟩)],
      .int .i64 ((k : Int) % (wd : Int)), .int .i64 ((k : Int) / (wd : Int)), undef, undef, undef, undef, undef, undef, undef, undef, undef, undef, undef, undef, undef, undef, undef], defers := [] }) ?assign ?body ?done ?stop
  case hI =>
    rintro k X Y row ⟨hE, h0, h1, h2, h3, h4, h5⟩ hg hr
    exact ⟨ext_keep hE hg (by simp; omega) hr, box_keep h0 hg hr, box_keep h1 hg hr, box_keep h2 hg hr, box_keep h3 hg hr, box_keep h4 hg hr, box_keep h5 hg hr⟩
  case assign =>
    intro l x W K hK
    unfold pix
    gi_wp2
    exact hK
  case body =>
    rintro l0 k W ⟨hE, h0, h1, h2, h3, h4, h5⟩ hk
    have hkO : k < O.length := by rw [HN.out] at hk; exact hk
    obtain ⟨i, hi, hil⟩ := Hin.out k hkO
    have Hsu := Lib.hid (costTo_succ (wd := wd) hkO hi hil)
    obtain ⟨hpi, p1, p2, p3, p4⟩ := pix_in2 hw1 hw2 (k := k) (by omega)
    have hnear : Near l[i] ((k : Int) % (wd : Int)) ((k : Int) / (wd : Int)) := ⟨Hst.out i hil, hpi⟩
    have hsb := sq_bd hnear
    have hb := Hbd.out k (by omega) (by omega)
    obtain ⟨bO, oO, rfl, hbO, hcO⟩ := hO.ext hE k hkO
    rw [List.getElem?_eq_getElem hkO, Option.getD_some, hi] at hcO
    obtain ⟨bl, ol, rfl, hbl, hcx, hcy, hcw⟩ := hl.ext hE i hil
    have hkm : k < m := by omega
    have hin' : i < n := by omega
    have c0 := h0.cell
    have l0' := h0.lt
    have c1 := h1.cell
    have l1' := h1.lt
    have c2 := h2.cell
    have l2' := h2.lt
    have c3 := h3.cell
    have l3' := h3.lt
    clear hi
    gi_wp2_with fail
    refine wpIn_region_ext_tail (r := some l0) 12 (by kernel_rfl) (by kernel_rfl) (by kernel_rfl) ?_
    simp only [List.take_succ_cons, List.take_zero, List.drop_succ_cons, List.drop_zero]
    repeat (go_big_quiet_step ((go_at_call 87; exact quiet_ext (f87_c _ _ _ _ hnear))))
    refine wpQuiet_nil ?_
    intro w1 hE1
    have g2 := box_ext h2 hE1
    have g3 := box_ext h3 hE1
    have c2' := g2.cell
    have f2' := g2.frozen
    have c3' := g3.cell
    have f3' := g3.frozen
    gi_wp2_with fail
    have e2 : Boxed ((w1.setCell ⟨w.heap.size + 1 + 1 + 1, 0, none⟩ (.int .i64 (costTo l wd O k + sq l[i] ((k : Int) % (wd : Int)) ((k : Int) / (wd : Int))))).setCell ⟨w.heap.size + 1 + 1, 0, none⟩ (.int .i64 ((k : Int) + 1))) (w.heap.size + 1 + 1) 3 (.int .i64 ((k + 1 : Nat) : Int)) := by
      rw [show ((k + 1 : Nat) : Int) = (k : Int) + 1 by omega]; exact (g2.other (by omega) _).set _
    have e3 : Boxed ((w1.setCell ⟨w.heap.size + 1 + 1 + 1, 0, none⟩ (.int .i64 (costTo l wd O k + sq l[i] ((k : Int) % (wd : Int)) ((k : Int) / (wd : Int))))).setCell ⟨w.heap.size + 1 + 1, 0, none⟩ (.int .i64 ((k : Int) + 1))) (w.heap.size + 1 + 1 + 1) 3 (.int .i64 (costTo l wd O (k + 1))) := by
      rw [Hsu.out]; exact (g3.set _).other (by omega) _
    exact ⟨((ext_keeps hE1).trans (KeepsOthers.setCell _ _ _)).trans (KeepsOthers.setCell _ _ _), ((hE.trans' hE1).setCell (show w.heap.size ≤ w.heap.size + 1 + 1 + 1 by omega) _).setCell (show w.heap.size ≤ w.heap.size + 1 + 1 by omega) _,
      ((box_ext h0 hE1).other (by omega) _).other (by omega) _, ((box_ext h1 hE1).other (by omega) _).other (by omega) _, e2, e3, ((box_ext h4 hE1).other (by omega) _).other (by omega) _, ((box_ext h5 hE1).other (by omega) _).other (by omega) _⟩
  case done =>
    rintro D W hD ⟨hE, h0, h1, h2, h3, h4, h5⟩ hK
    have hc3 := h3.cell
    go_wp2
    refine ⟨by simp, .inl ⟨_, _, rfl, run_takeDeferred hK, ?_⟩⟩
    exact ⟨_, results_tmp rfl _ _ _, by rw [HN.out, hm]; rfl, ext_putObj hE (by simp at hD; omega) _⟩
  case stop =>
    rintro D c k W _ _ h _
    exact h.elim
end Go.Proofs.Ytodlbgncdggimaa
