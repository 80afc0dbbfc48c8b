/- Plain words and general laws, merged: T37 T38. -/
import Derived.Test.YtodlbgncdggimaaT36
import Derived.Test.YtodlbgncdggimaaT24
/- Contract of the program: dual. -/
namespace Go.Proofs.Ytodlbgncdggimaa
open Go.RowKit
attribute [local go_sem] GW.cell Oper.semAt_some wide_depth

set_option maxRecDepth 100000 in
set_option maxHeartbeats 8000000 in
theorem f82_c (a b : Option Addr) (n c m d : Nat) (l : List Site) (S : List Int) (wd ht : Nat) (w : World) (hl : Sites w a l) (hS : Ints w b S) (hn : l.length = n) (hm : S.length = m) (hok : okShared l wd ht S = true) :
    Calls Try.prog 82 #[.slice a n c, .int .i64 wd, .int .i64 ht, .slice b m d] w fun e w' => e = .returned (.int .i64 (dualV l wd ht S)) ∧ Ext w w' := by
  subst hn hm
  obtain ⟨hF, hq, hnn, hsum⟩ := shared_spec.1 hok
  have hel := fun j (hj : j < S.length) => shared_elem hok hj
  obtain ⟨hos, h1, h2, h3, h4⟩ := okField_bd hF
  have hp := prod_bd h1 h2 h3 h4
  rw [dual_ok hok, Int.toNat_natCast, Int.toNat_natCast]
  have hN : ((wd : Int) * (ht : Int)) = ((wd * ht : Nat) : Int) := by simp
  have hN2 : wd * ht ≤ 144 := by omega
  have hl5 := okSites_len hos
  have hlow := low_bd hos (wd := wd) (by omega) (by omega)
  have hhv := heavy_bd hos hq (fun j hj => by have := hel j hj; omega)
  have hst := fun i (h : i < l.length) => okSites_at hos h
  have HN := Lib.hid hN
  have Hos := Lib.hid hos
  have Hlow := Lib.hid hlow
  have Hhv := Lib.hid hhv
  have Hst := Lib.hid hst
  have Hel := Lib.hid hel
  have Hq := Lib.hid hq
  clear hok hF hq hnn hsum hel hos hN hlow hhv hst
  refine calls_range Try.func82 rfl ?_
  simp only [Try.ntmps82, List.size_toArray, List.length_cons, List.length_nil, Nat.reduceAdd, Nat.reduceSub, Array.replicate_succ, Array.replicate_zero, List.push_toArray, List.append_toArray, List.nil_append, List.cons_append]
  go_wp2_with (go_at_call 63; refine (f63_c _ _ _).mono ?_; rintro e w' ⟨rfl, rfl⟩)
  have b0 := Boxed.new w 22 (.slice a l.length c)
  have b1 := Boxed.new (w.alloc (.cells #[.slice a l.length c] 22)) 3 (.int .i64 0)
  have b2 := Boxed.new ((w.alloc (.cells #[.slice a l.length c] 22)).alloc (.cells #[.int .i64 0] 3)) 3 (.int .i64 wd)
  have b3 := Boxed.new (((w.alloc (.cells #[.slice a l.length c] 22)).alloc (.cells #[.int .i64 0] 3)).alloc (.cells #[.int .i64 wd] 3)) 3 (.int .i64 ht)
  simp only [World.size_alloc] at b1 b2 b3
  have hE0 := (((ext_alloc w (.cells #[.slice a l.length c] 22)).trans' (ext_alloc _ (.cells #[.int .i64 0] 3))).trans' (ext_alloc _ (.cells #[.int .i64 wd] 3))).trans' (ext_alloc _ (.cells #[.int .i64 ht] 3))
  refine wp_range (gf := 89) (lb := #[.pointer (some ⟨w.heap.size + 1 + 1, 0, none⟩), .pointer (some ⟨w.heap.size + 1 + 1 + 1, 0, none⟩)]) rfl (enters_of Try.func89 (by kernel_rfl) rfl)
    (f89_seq wd ht (by omega) (by omega) (by omega) (w.heap.size + 1 + 1) (w.heap.size + 1 + 1 + 1)) (fun _ => rfl)
    (fun k W => Ext w W ∧ Boxed W w.heap.size 22 (.slice a l.length c) ∧ Boxed W (w.heap.size + 1) 3 (.int .i64 (lowTo l wd k)) ∧
      Boxed W (w.heap.size + 1 + 1) 3 (.int .i64 wd) ∧ Boxed W (w.heap.size + 1 + 1 + 1) 3 (.int .i64 ht))
    (fun _ _ _ => False) ?hI (fun _ _ _ _ _ h _ _ => h) (fun k W h => ⟨h.2.2.2.1.cell, h.2.2.2.2.cell⟩)
    ⟨hE0, ((b0.alloc _).alloc _).alloc _, (b1.alloc _).alloc _, b2.alloc _, b3⟩
    (fun k => { tmps := #[.slice a l.length c, .int .i64 wd, .int .i64 ht, .slice b S.length d, .pointer (some ⟨w.heap.size, 0, none⟩), undef, undef, undef, .int .i64 0, .pointer (some ⟨w.heap.size + 1, 0, none⟩),
      .int .i64 ((k : Int) % (wd : Int)), .int .i64 ((k : Int) / (wd : Int)), undef, undef, undef, undef, .int .i64 wd, .int .i64 ht, .func (.func 89) #[] #[.pointer (some ⟨w.heap.size + 1 + 1, 0, none⟩), .pointer (some ⟨w.heap.size + 1 + 1 + 1, 0, none⟩)],
      .int .i64 ((k : Int) % (wd : Int)), .int .i64 ((k : Int) / (wd : Int)), undef, undef, undef, undef, undef, undef, undef, undef, undef, undef, undef, undef, undef, undef, undef, undef, undef, undef, undef, undef, undef, undef, undef, undef, undef, undef, undef, undef], defers := [] }) ?assign ?body ?done ?stop
  case hI =>
    rintro k X Y row ⟨hE, h0, h3, h4, h5⟩ hg hr
    exact ⟨ext_keep hE hg (by simp; omega) hr, box_keep h0 hg hr, box_keep h3 hg hr, box_keep h4 hg hr, box_keep h5 hg hr⟩
  case assign =>
    intro l x W K hK
    unfold pix
    gi_wp2
    exact hK
  case body =>
    rintro l0 k W ⟨hE, h0, h3, h4, h5⟩ hk
    have hc0 := h0.cell
    have hb := Hlow.out k (by omega)
    have hb2 := Hlow.out (k + 1) (by omega)
    have Hsu := Lib.hid (show lowTo l wd (k + 1) = lowTo l wd k + minTo (l.map fun s => pow s ((k : Int) % (wd : Int)) ((k : Int) / (wd : Int))) l.length from rfl)
    rw [show lowTo l wd (k + 1) = lowTo l wd k + minTo (l.map fun s => pow s ((k : Int) % (wd : Int)) ((k : Int) / (wd : Int))) l.length from rfl] at hb2
    gi_wp2_with fail
    refine ⟨trivial, (CallsIn.inRound l0 (callsIn_wide.2 (f64_c a l.length c l _ _ _ (hl.ext hE) rfl Hos.out (pix_in (by omega) (by omega) (by omega) hk)))).mono ?_⟩
    rintro e w2 ⟨rfl, hE3⟩
    have hE4 := hE3.trans' (ext_alloc w2 (.cells (arr5 l ((k : Int) % (wd : Int)) ((k : Int) / (wd : Int))) 86))
    have g3 := box_ext h3 hE4
    unfold arr5 at hE4 g3
    have c3 := g3.cell
    have f3 := g3.frozen
    have l3 := g3.lt
    generalize minTo (l.map fun s => pow s ((k : Int) % (wd : Int)) ((k : Int) / (wd : Int))) l.length = lp at *
    gi_wp2_with fail
    rw [← Hsu.out]
    exact ⟨(ext_keeps hE4).trans (KeepsOthers.setCell _ _ _), (hE.trans' hE4).setCell (show w.heap.size ≤ w.heap.size + 1 by omega) _, (box_ext h0 hE4).other (by omega) _, g3.set _, (box_ext h4 hE4).other (by omega) _, (box_ext h5 hE4).other (by omega) _⟩
  case done =>
    rintro D W hD ⟨hE, h0, h3, h4, h5⟩ hK
    have hD1 : w.heap.size + 1 + 1 + 1 < D := by simp at hD; omega
    generalize hLo : lowTo l wd (wd * ht) = lo at *
    have hlo := Hlow.out (wd * ht) hN2
    rw [hLo] at hlo
    have HLo := Lib.hid hLo
    clear hLo
    have HK := Lib.hid hK
    clear hK
    go_wp2_with fail
    go_loopw [14, 15, 33] (fun _ _ i wr => ∃ k : Nat, k ≤ S.length ∧ i = .int .i64 k ∧ Ext w wr ∧ Boxed wr w.heap.size 22 (.slice a l.length c) ∧ Boxed wr (w.heap.size + 1) 3 (.int .i64 (lo + heavyTo l S k)) ∧ Hid (wr.heap[D]? = some (.deferred (some [])))) (fun _ _ i _ => S.length - (intOf i).toNat)
    case atStart => exact ⟨0, by omega, rfl, hE, h0, by simpa [heavyTo] using h3, HK⟩
    case round =>
      obtain ⟨k, hk, rfl, hE, h0, h3, HK⟩ := hrel
      by_cases hlt : k < S.length
      · have hkl : k < l.length := by rw [← Hq.out]; exact hlt
        have hb1 := Hhv.out k (by omega)
        have hb2 := Hhv.out (k + 1) (by omega)
        have hh := heavy_step hlt hkl
        have Hsu := Lib.hid hh
        have hsb := share_bd (Hst.out k hkl) (n := S[k]) (Hel.out k hlt).1 (by have := Hel.out k hlt; omega)
        obtain ⟨bO, oO, rfl, hbO, hcO⟩ := hS.ext hE k hlt
        rw [List.getElem?_eq_getElem hlt, Option.getD_some] at hcO
        obtain ⟨bl, ol, rfl, hbl, hcx, hcy, hcw⟩ := hl.ext hE k hkl
        generalize heavyTo l S k = hv at *
        clear hh
        have c0 := h0.cell
        have c3 := h3.cell
        have l0' := h0.lt
        have l3' := h3.lt
        go_wp2_with fail
        refine wp_region_ext_tail 9 (by kernel_rfl) (by kernel_rfl) ?_
        simp only [List.take_succ_cons, List.take_zero, List.drop_succ_cons, List.drop_zero]
        repeat (go_big_quiet_step (fail))
        refine wpQuiet_nil ?_
        intro w2 hE2
        have g3 := box_ext h3 hE2
        have c3 := g3.cell
        have f3 := g3.frozen
        go_wp2_with fail
        go_roundw
        case rel => exact ⟨k + 1, by omega, by go_num, (hE.trans' hE2).setCell (show w.heap.size ≤ w.heap.size + 1 by omega) _, (box_ext h0 hE2).other (by omega) _, by rw [Hsu.out, ← Int.add_assoc]; exact g3.set _, Lib.hid ((Below.heap_setCell _ ⟨_, 0, none⟩ _ D (by show D ≠ w.heap.size + 1; omega)).trans ((hE2.block D (Array.getElem?_eq_some_iff.1 HK.out).1).trans HK.out))⟩
        case measure => simp [intOf]; omega
      · obtain rfl : k = S.length := by omega
        have hq2 := Hq.out
        have c3 := h3.cell
        clear hq2
        go_wp2_with fail
        refine ⟨by simp, .inl ⟨_, _, rfl, run_takeDeferred HK.out, ?_⟩⟩
        exact ⟨_, results_tmp rfl _ _ _, by rw [HLo.out, ← Hq.out]; rfl, ext_putObj hE (by omega) _⟩
  case stop =>
    rintro D c k W _ _ h _
    exact h.elim
end Go.Proofs.Ytodlbgncdggimaa
/- Contract of the program: Dual. -/
namespace Go.Proofs.Ytodlbgncdggimaa
open Go.RowKit
attribute [local go_sem] GW.cell

set_option maxHeartbeats 2000000 in
theorem f50_c (a b : Option Addr) (n c m d : Nat) (l : List Site) (S : List Int) (x y : Int) (w : World) (hl : Sites w a l) (hS : Ints w b S) (hn : l.length = n) (hm : S.length = m) (hlen : n ≤ 140737488355328) (hlm : m ≤ 140737488355328) :
    Calls Try.prog 50 #[.slice a n c, .int .i64 x, .int .i64 y, .slice b m d] w (RetI (dualV l x y S) (errOf (okShared l x y S)) w) := by
  have hc := f80_c a b n c m d l S x y w hl hS hn hm hlen hlm
  rcases errOf_cases2 (okShared l x y S) with ⟨hok, he⟩ | ⟨hok, he⟩
  · obtain ⟨hF, -, -, -⟩ := shared_spec.1 hok
    obtain ⟨-, h1, h2, h3, h4⟩ := okField_bd hF
    rw [he] at hc ⊢
    obtain ⟨wd, rfl⟩ := Int.eq_ofNat_of_zero_le (a := x) (by omega)
    obtain ⟨ht, rfl⟩ := Int.eq_ofNat_of_zero_le (a := y) (by omega)
    have Hc := Lib.hid hc
    have Hok := Lib.hid hok
    clear hc he hok hF
    go_enter Try.func50, Try.ntmps50
    go_wp2_with fail
    refine Hc.out.mono ?_
    rintro e w1 ⟨rfl, hE1⟩
    clear Hc
    go_wp2_with fail
    refine (f82_c a b n c m d l S wd ht w1 (hl.ext hE1) (hS.ext hE1) hn hm Hok.out).mono ?_
    rintro e w2 ⟨rfl, hE2⟩
    generalize dualV l wd ht S = dv at *
    go_wp2_with fail
    go_ret2
    exact ⟨rfl, hE1.trans' hE2⟩
  · rw [dual_no hok]
    rw [he] at hc ⊢
    have Hc := Lib.hid hc
    clear hc he hok
    go_enter Try.func50, Try.ntmps50
    go_wp2_with fail
    refine Hc.out.mono ?_
    rintro e w1 ⟨rfl, hE1⟩
    clear Hc
    go_wp2_with fail
    go_ret2
    exact ⟨rfl, hE1⟩
end Go.Proofs.Ytodlbgncdggimaa
