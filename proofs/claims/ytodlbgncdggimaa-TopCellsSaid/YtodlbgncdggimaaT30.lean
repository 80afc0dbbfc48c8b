/- Contract of the program: Centre. -/
import Derived.Test.YtodlbgncdggimaaT29
namespace Go.Proofs.Ytodlbgncdggimaa
open Go.RowKit
attribute [local go_sem] GW.cell Oper.semAt_some wide_depth

/-- a whole block -/
def Blk (W : World) (B : Nat) (o : Obj) : Prop := W.heap[B]? = some o
section
variable {X Y : World} {B : Nat} {o : Obj}
theorem Blk.lt (h : Blk X B o) : B < X.heap.size := (Array.getElem?_eq_some_iff.1 h).1
theorem Blk.kept {row : Option Nat} (h : Blk X B o) (hg : X.grownBy Y row) (hne : some B ≠ row) : Blk Y B o := (hg.block B h.lt hne).trans h
theorem Blk.alloc (h : Blk X B o) (o' : Obj) : Blk (X.alloc o') B o := h.kept (World.grownBy_alloc X o' none) (by simp)
theorem Blk.ext (h : Blk X B o) (hE : Ext X Y) : Blk Y B o := (hE.block B h.lt).trans h
theorem Blk.other (h : Blk X B o) {B' : Nat} (hne : B ≠ B') (u : Value) : Blk (X.setCell ⟨B', 0, none⟩ u) B o := (Below.heap_setCell X ⟨B', 0, none⟩ u B hne).trans h
theorem Blk.keep {row : Option Nat} {B0 : Nat} (h : Blk X B o) (hc : o.isCells = true) (hg : X.grownBy Y row) (hr : ∀ r, row = some r → B0 ≤ r ∧ ∃ o : Obj, X.heap[r]? = some o ∧ o.isCells = false) : Blk Y B o :=
  h.kept hg fun e => by
    obtain ⟨_, o', ho, hc'⟩ := hr B e.symm
    rw [show X.heap[B]? = _ from h] at ho; cases ho; rw [hc] at hc'; cases hc'
theorem Blk.putObj (h : Blk X B o) {l : Nat} (hl : B ≠ l) (o' : Obj) : Blk (X.putObj l o') B o := h.kept (grownBy_putObj' X l o') (by simpa using hl)
end
def zer4 : Obj := .cells #[.int .i64 0, .int .i64 0, .int .i64 0, .int .i64 0] 56
theorem zer4_cell {W : World} {B : Nat} (h : Blk W B zer4) {j : Nat} (hj : j < 4) : W.cell? ⟨B, j, none⟩ = some (.int .i64 0) := by
  have : j = 0 ∨ j = 1 ∨ j = 2 ∨ j = 3 := by omega
  rcases this with rfl | rfl | rfl | rfl <;> simp [World.cell?, show W.heap[B]? = _ from h, zer4]
theorem zer4_frozen {W : World} {B : Nat} (h : Blk W B zer4) (j : Nat) : W.frozen? ⟨B, j, none⟩ = false := by
  simp [World.frozen?, show W.heap[B]? = _ from h, zer4]

theorem cell_putObj {W : World} {D : Nat} {o : Obj} {a : Addr} (h : a.block ≠ D) : (W.putObj D o).cell? a = W.cell? a := by
  unfold World.cell?
  rw [World.putObj_heap_other h]
theorem heap_set {W : World} {D : Nat} {o : Obj} (h : W.heap[D]? = some o) {a : Addr} (hne : D ≠ a.block) (u : Value) : (W.setCell a u).heap[D]? = some o := (Below.heap_setCell W a u D hne).trans h

set_option maxRecDepth 100000 in
set_option maxHeartbeats 8000000 in
theorem f39_c (a b : Option Addr) (n c m d : Nat) (l : List Site) (O : List Int) (x y i : Int) (w : World) (hl : Sites w a l) (hO : Ints w b O) (hn : l.length = n) (hm : O.length = m) (hlen : n ≤ 140737488355328) (hlm : m ≤ 140737488355328) :
    Calls Try.prog 39 #[.slice a n c, .int .i64 x, .int .i64 y, .slice b m d, .int .i64 i] w (RetV (cenV l x y O i) (cenErr l x y O i) w) := by
  have hEb : Ext w (((w.alloc (.cells #[.slice b m d] 26)).alloc (.cells #[.int .i64 i] 3)).alloc zer4) := ((ext_alloc w _).trans' (ext_alloc _ _)).trans' (ext_alloc _ _)
  have b0 := ((Boxed.new w 26 (.slice b m d)).alloc (.cells #[.int .i64 i] 3)).alloc zer4
  have b1 := (Boxed.new (w.alloc (.cells #[.slice b m d] 26)) 3 (.int .i64 i)).alloc zer4
  have b2 : Blk (((w.alloc (.cells #[.slice b m d] 26)).alloc (.cells #[.int .i64 i] 3)).alloc zer4) ((w.alloc (.cells #[.slice b m d] 26)).alloc (.cells #[.int .i64 i] 3)).heap.size zer4 := World.alloc_heap_new _ _
  simp only [World.size_alloc] at b1 b2
  obtain ⟨W0, hW0⟩ : ∃ W0, W0 = (((w.alloc (.cells #[.slice b m d] 26)).alloc (.cells #[.int .i64 i] 3)).alloc zer4) := ⟨_, rfl⟩
  rw [← hW0] at hEb b0 b1 b2
  unfold zer4 at hW0
  have hl0 := hl.ext hEb
  have hO0 := hO.ext hEb
  have hc := f22_c a n c l W0 hl0 hn hlen
  have HW0 := Lib.hid hW0
  clear hW0
  rcases Bool.eq_false_or_eq_true (okSites l) with hok | hok
  · have he1 : errOf (okSites l) = 0 := by rw [hok]; rfl
    rw [he1] at hc
    have Hc := Lib.hid hc
    rcases Bool.eq_false_or_eq_true (isNo l i) with hi | hi
    · have hib := withinB_iff.1 (show withinB i 0 ((l.length : Int) - 1) = true from hi)
      have d1 : decide (i < 0) = false := by simp; omega
      have d2 : decide ((n : Int) ≤ i) = false := by simp; omega
      have hc2 := fun W (h : Sites W a l) (k : Ints W b O) => f62_c a b n c m d l O x y W h k hn hm hlen hlm
      rcases Bool.eq_false_or_eq_true (okOwned l x y O) with how | how
      · have he : errOf (okOwned l x y O) = 0 := by rw [how]; rfl
        simp only [he] at hc2
        obtain ⟨hf, hq, hin⟩ := owned_spec how
        obtain ⟨hos, h1, h2, h3, h4⟩ := okField_bd hf
        have hp := prod_bd h1 h2 h3 h4
        obtain ⟨wd, rfl⟩ := Int.eq_ofNat_of_zero_le (a := x) (by omega)
        obtain ⟨ht, rfl⟩ := Int.eq_ofNat_of_zero_le (a := y) (by omega)
        have hN : wd * ht = O.length := by
          have : ((wd * ht : Nat) : Int) = (O.length : Int) := by rw [hq]; simp
          omega
        have h144 : O.length ≤ 144 := by omega
        have hcb := cen_bd (show 1 ≤ wd by omega) (show wd ≤ 12 by omega) O i
        have hfin : (cntTo O i O.length = 0 ∧ cenErr l wd ht O i = 4 ∧ cenV l wd ht O i = ratZ) ∨ (cntTo O i O.length ≠ 0 ∧ cenErr l wd ht O i = 0 ∧ cenV l wd ht O i = rat2 (cenX wd O i O.length) (cntTo O i O.length : Nat) (cenY wd O i O.length) (cntTo O i O.length : Nat)) := by
          by_cases h : cntTo O i O.length = 0
          · exact .inl ⟨h, cen_none hok hi how h⟩
          · exact .inr ⟨h, cen_ok hok hi how h⟩
        have Hcb := Lib.hid hcb
        have Hc2 := Lib.hid hc2
        have Hfin := Lib.hid hfin
        have HN := Lib.hid hN
        clear hc hc2 hok hi how he he1 hf hq hin hos hcb hfin hN
        refine calls_range Try.func39 rfl ?_
        simp only [Try.ntmps39, List.size_toArray, List.length_cons, List.length_nil, Nat.reduceAdd, Nat.reduceSub, Array.replicate_succ, Array.replicate_zero, List.push_toArray, List.append_toArray, List.nil_append, List.cons_append]
        go_wp2_with fail
        rw [← HW0.out]
        refine Hc.out.mono ?_
        rintro e w1 ⟨rfl, hE1⟩
        clear Hc HW0
        have c1 := (box_ext b1 hE1).cell
        have c0 := (box_ext b0 hE1).cell
        go_wp2_with fail
        refine (Hc2.out _ (hl0.ext hE1) (hO0.ext hE1)).mono ?_
        rintro e w2 ⟨rfl, hE2⟩
        clear Hc2 c1 c0
        have hE12 := hE1.trans' hE2
        have b0 := box_ext b0 hE12
        have b1 := box_ext b1 hE12
        have b2 := b2.ext hE12
        have hE0 := hEb.trans' hE12
        clear hE1 hE2 hE12 hEb
        go_wp2_with (go_at_call 63; refine (f63_c _ _ _).mono ?_; rintro e w' ⟨rfl, rfl⟩)
        have hs1 := b1.lt
        have hs2 := b2.lt
        have e0 := Boxed.new w2 3 (.int .i64 0)
        have e1 := Boxed.new (w2.alloc (.cells #[.int .i64 0] 3)) 3 (.int .i64 0)
        have e2 := Boxed.new ((w2.alloc (.cells #[.int .i64 0] 3)).alloc (.cells #[.int .i64 0] 3)) 3 (.int .i64 0)
        have e3 := Boxed.new (((w2.alloc (.cells #[.int .i64 0] 3)).alloc (.cells #[.int .i64 0] 3)).alloc (.cells #[.int .i64 0] 3)) 3 (.int .i64 0)
        have e4 := Boxed.new ((((w2.alloc (.cells #[.int .i64 0] 3)).alloc (.cells #[.int .i64 0] 3)).alloc (.cells #[.int .i64 0] 3)).alloc (.cells #[.int .i64 0] 3)) 3 (.int .i64 wd)
        have e5 := Boxed.new (((((w2.alloc (.cells #[.int .i64 0] 3)).alloc (.cells #[.int .i64 0] 3)).alloc (.cells #[.int .i64 0] 3)).alloc (.cells #[.int .i64 0] 3)).alloc (.cells #[.int .i64 wd] 3)) 3 (.int .i64 ht)
        simp only [World.size_alloc] at e1 e2 e3 e4 e5
        have hE6 := ((((((hE0.trans' (ext_alloc _ (.cells #[.int .i64 0] 3))).trans' (ext_alloc _ (.cells #[.int .i64 0] 3))).trans' (ext_alloc _ (.cells #[.int .i64 0] 3))).trans' (ext_alloc _ (.cells #[.int .i64 0] 3))).trans' (ext_alloc _ (.cells #[.int .i64 wd] 3))).trans' (ext_alloc _ (.cells #[.int .i64 ht] 3)))
        refine wp_range (gf := 89) (lb := #[.pointer (some ⟨w2.heap.size + 1 + 1 + 1 + 1, 0, none⟩), .pointer (some ⟨w2.heap.size + 1 + 1 + 1 + 1 + 1, 0, none⟩)]) rfl (enters_of Try.func89 (by kernel_rfl) rfl)
          (f89_seq wd ht (by omega) (by omega) (by omega) (w2.heap.size + 1 + 1 + 1 + 1) (w2.heap.size + 1 + 1 + 1 + 1 + 1)) (fun _ => rfl)
          (fun k W => Ext w W ∧ Boxed W w.heap.size 26 (.slice b m d) ∧ Boxed W (w.heap.size + 1) 3 (.int .i64 i) ∧ Blk W (w.heap.size + 1 + 1) zer4 ∧ Boxed W (w2.heap.size) 3 (.int .i64 k) ∧ Boxed W (w2.heap.size + 1) 3 (.int .i64 (cntTo O i k : Nat)) ∧ Boxed W (w2.heap.size + 1 + 1) 3 (.int .i64 (cenX wd O i k)) ∧ Boxed W (w2.heap.size + 1 + 1 + 1) 3 (.int .i64 (cenY wd O i k)) ∧
            Boxed W (w2.heap.size + 1 + 1 + 1 + 1) 3 (.int .i64 wd) ∧ Boxed W (w2.heap.size + 1 + 1 + 1 + 1 + 1) 3 (.int .i64 ht))
          (fun _ _ _ => False) ?hI (fun _ _ _ _ _ h _ _ => h) (fun k W h => ⟨h.2.2.2.2.2.2.2.2.1.cell, h.2.2.2.2.2.2.2.2.2.cell⟩)
          ⟨hE6, ((((((b0.alloc _).alloc _).alloc _).alloc _).alloc _).alloc _), ((((((b1.alloc _).alloc _).alloc _).alloc _).alloc _).alloc _), ((((((b2.alloc _).alloc _).alloc _).alloc _).alloc _).alloc _), (((((e0.alloc _).alloc _).alloc _).alloc _).alloc _), ((((e1.alloc _).alloc _).alloc _).alloc _), (((e2.alloc _).alloc _).alloc _), ((e3.alloc _).alloc _), (e4.alloc _), e5⟩
          (fun k => { tmps := #[.slice a n c, .int .i64 wd, .int .i64 ht, .slice b m d, .int .i64 i, undef, undef, undef, .pointer (some ⟨w.heap.size, 0, none⟩), .pointer (some ⟨w.heap.size + 1, 0, none⟩), .pointer (some ⟨w.heap.size + 1 + 1, 0, none⟩), .int .i64 0, .int .i64 0, .int .i64 0, .pointer (some ⟨w2.heap.size, 0, none⟩), .pointer (some ⟨w2.heap.size + 1, 0, none⟩), .pointer (some ⟨w2.heap.size + 1 + 1, 0, none⟩), .pointer (some ⟨w2.heap.size + 1 + 1 + 1, 0, none⟩), .int .i64 ((k : Int) % (wd : Int)), .int .i64 ((k : Int) / (wd : Int)), .slice a n c, .int .i64 0, .int .i64 0, .bool false, undef, undef, .int .i64 i, .bool false, .bool false, .int .i64 i, .slice a n c, .int .i64 n, .bool false, .bool false, undef, .slice a n c, .int .i64 wd, .int .i64 ht, .slice b m d, .int .i64 0, .int .i64 0, .bool false, undef, undef, .int .i64 wd, .int .i64 ht, .func (.func 89) #[] #[.pointer (some ⟨w2.heap.size + 1 + 1 + 1 + 1, 0, none⟩), .pointer (some ⟨w2.heap.size + 1 + 1 + 1 + 1 + 1, 0, none⟩)], .int .i64 ((k : Int) % (wd : Int)), .int .i64 ((k : Int) / (wd : Int)), undef, undef, undef, undef, undef, undef, undef, undef, undef, undef, undef, undef, undef, undef, undef, undef, undef, undef, undef, undef, undef, undef, undef, undef, undef, undef], defers := [] }) ?assign ?body ?done ?stop
        case hI =>
          rintro k X Y row ⟨hE, h0, h1, h2, h3, h4, h5, h6, h7, h8⟩ hg hr
          exact ⟨ext_keep hE hg (by simp; omega) hr, box_keep h0 hg hr, box_keep h1 hg hr, h2.keep rfl hg hr, box_keep h3 hg hr, box_keep h4 hg hr, box_keep h5 hg hr, box_keep h6 hg hr, box_keep h7 hg hr, box_keep h8 hg hr⟩
        case assign =>
          intro l x W K hK
          unfold pix
          gi_wp2
          exact hK
        case body =>
          rintro l0 k W ⟨hE, h0, h1, h2, h3, h4, h5, h6, h7, h8⟩ hk
          have hkO : k < O.length := by rw [HN.out] at hk; exact hk
          obtain ⟨⟨q1, q2⟩, q3, q4⟩ := Hcb.out k (by omega)
          have q5 := cntTo_le O i k
          obtain ⟨hpi, p1, p2, p3, p4⟩ := pix_in2 (show 1 ≤ wd by omega) (show wd ≤ 12 by omega) (k := k) (by omega)
          unfold pxx at p1 p3
          unfold pxy at p2 p4
          obtain ⟨bO, oO, rfl, hbO, hcO⟩ := hO.ext hE k hkO
          rw [List.getElem?_eq_getElem hkO, Option.getD_some] at hcO
          have hkm : k < m := by omega
          have c0 := h0.cell
          have l0' := h0.lt
          have c1 := h1.cell
          have l1' := h1.lt
          have c3 := h3.cell
          have l3' := h3.lt
          have hlt2 := h2.lt
          by_cases heq : O[k] = i
          · have Hs := Lib.hid (cen_yes (wd := wd) hkO heq)
            have hb : (O[k] == i) = true := by simp [heq]
            clear heq
            gi_wp2_with fail
            refine wpIn_region_ext (r := some l0) (by kernel_rfl) (by kernel_rfl) (by kernel_rfl) ?_
            repeat (go_big_quiet_step (fail))
            refine wpQuiet_nil ?_
            intro w3 hE3
            have g3 := box_ext h3 hE3
            have g4 := box_ext h4 hE3
            have g5 := box_ext h5 hE3
            have g6 := box_ext h6 hE3
            clear c0 l0' c1 l1' c3 l3' hcO
            have c4 := g4.cell
            have l4' := g4.lt
            have c5 := g5.cell
            have l5' := g5.lt
            have c6 := g6.cell
            have l6' := g6.lt
            gi_wp2_with fail
            refine wpIn_region_open (r := some l0) (by kernel_rfl) (by kernel_rfl) ?_
            intro w4 hE4
            have g3 := box_ext g3 hE4
            have g4 := box_ext g4 hE4
            have g5 := box_ext g5 hE4
            have g6 := box_ext g6 hE4
            clear c4 l4' c5 l5' c6 l6'
            have c3 := g3.cell
            have f3' := g3.frozen
            have c4 := g4.cell
            have f4' := g4.frozen
            have c5 := g5.cell
            have f5' := g5.frozen
            have c6 := g6.cell
            have f6' := g6.frozen
            have hE5 := hE3.trans' hE4
            have hsz0 := hE0.size
            have HB0 := Lib.hid (show w.heap.size ≤ w2.heap.size by omega)
            have HB1 := Lib.hid (show w.heap.size ≤ w2.heap.size + 1 by omega)
            have HB2 := Lib.hid (show w.heap.size ≤ w2.heap.size + 1 + 1 by omega)
            have HB3 := Lib.hid (show w.heap.size ≤ w2.heap.size + 1 + 1 + 1 by omega)
            have F0 : Hid (Boxed ((((w4.setCell ⟨w2.heap.size + 1, 0, none⟩ (.int .i64 (((cntTo O i k : Nat) : Int) + 1))).setCell ⟨w2.heap.size + 1 + 1, 0, none⟩ (.int .i64 (cenX wd O i k + (k : Int) % (wd : Int)))).setCell ⟨w2.heap.size + 1 + 1 + 1, 0, none⟩ (.int .i64 (cenY wd O i k + (k : Int) / (wd : Int)))).setCell ⟨w2.heap.size, 0, none⟩ (.int .i64 ((k : Int) + 1))) w.heap.size 26 (.slice (some ⟨bO, oO, none⟩) m d)) := Lib.hid (((((box_ext h0 hE5).other (by omega) _).other (by omega) _).other (by omega) _).other (by omega) _)
            have F1 : Hid (Boxed ((((w4.setCell ⟨w2.heap.size + 1, 0, none⟩ (.int .i64 (((cntTo O i k : Nat) : Int) + 1))).setCell ⟨w2.heap.size + 1 + 1, 0, none⟩ (.int .i64 (cenX wd O i k + (k : Int) % (wd : Int)))).setCell ⟨w2.heap.size + 1 + 1 + 1, 0, none⟩ (.int .i64 (cenY wd O i k + (k : Int) / (wd : Int)))).setCell ⟨w2.heap.size, 0, none⟩ (.int .i64 ((k : Int) + 1))) (w.heap.size + 1) 3 (.int .i64 i)) := Lib.hid (((((box_ext h1 hE5).other (by omega) _).other (by omega) _).other (by omega) _).other (by omega) _)
            have F2 : Hid (Blk ((((w4.setCell ⟨w2.heap.size + 1, 0, none⟩ (.int .i64 (((cntTo O i k : Nat) : Int) + 1))).setCell ⟨w2.heap.size + 1 + 1, 0, none⟩ (.int .i64 (cenX wd O i k + (k : Int) % (wd : Int)))).setCell ⟨w2.heap.size + 1 + 1 + 1, 0, none⟩ (.int .i64 (cenY wd O i k + (k : Int) / (wd : Int)))).setCell ⟨w2.heap.size, 0, none⟩ (.int .i64 ((k : Int) + 1))) (w.heap.size + 1 + 1) zer4) := Lib.hid (((((h2.ext hE5).other (by omega) _).other (by omega) _).other (by omega) _).other (by omega) _)
            have F3 : Hid (Boxed ((((w4.setCell ⟨w2.heap.size + 1, 0, none⟩ (.int .i64 (((cntTo O i k : Nat) : Int) + 1))).setCell ⟨w2.heap.size + 1 + 1, 0, none⟩ (.int .i64 (cenX wd O i k + (k : Int) % (wd : Int)))).setCell ⟨w2.heap.size + 1 + 1 + 1, 0, none⟩ (.int .i64 (cenY wd O i k + (k : Int) / (wd : Int)))).setCell ⟨w2.heap.size, 0, none⟩ (.int .i64 ((k : Int) + 1))) w2.heap.size 3 (.int .i64 ((k + 1 : Nat) : Int))) := Lib.hid (by rw [show ((k + 1 : Nat) : Int) = (k : Int) + 1 by omega]; exact (((g3.other (by omega) _).other (by omega) _).other (by omega) _).set _)
            have F4 : Hid (Boxed ((((w4.setCell ⟨w2.heap.size + 1, 0, none⟩ (.int .i64 (((cntTo O i k : Nat) : Int) + 1))).setCell ⟨w2.heap.size + 1 + 1, 0, none⟩ (.int .i64 (cenX wd O i k + (k : Int) % (wd : Int)))).setCell ⟨w2.heap.size + 1 + 1 + 1, 0, none⟩ (.int .i64 (cenY wd O i k + (k : Int) / (wd : Int)))).setCell ⟨w2.heap.size, 0, none⟩ (.int .i64 ((k : Int) + 1))) (w2.heap.size + 1) 3 (.int .i64 (cntTo O i (k + 1) : Nat))) := Lib.hid (by rw [Hs.out.1, show ((cntTo O i k + 1 : Nat) : Int) = ((cntTo O i k : Nat) : Int) + 1 by omega]; exact (((g4.set _).other (by omega) _).other (by omega) _).other (by omega) _)
            have F5 : Hid (Boxed ((((w4.setCell ⟨w2.heap.size + 1, 0, none⟩ (.int .i64 (((cntTo O i k : Nat) : Int) + 1))).setCell ⟨w2.heap.size + 1 + 1, 0, none⟩ (.int .i64 (cenX wd O i k + (k : Int) % (wd : Int)))).setCell ⟨w2.heap.size + 1 + 1 + 1, 0, none⟩ (.int .i64 (cenY wd O i k + (k : Int) / (wd : Int)))).setCell ⟨w2.heap.size, 0, none⟩ (.int .i64 ((k : Int) + 1))) (w2.heap.size + 1 + 1) 3 (.int .i64 (cenX wd O i (k + 1)))) := Lib.hid (by rw [Hs.out.2.1]; exact (((g5.other (by omega) _).set _).other (by omega) _).other (by omega) _)
            have F6 : Hid (Boxed ((((w4.setCell ⟨w2.heap.size + 1, 0, none⟩ (.int .i64 (((cntTo O i k : Nat) : Int) + 1))).setCell ⟨w2.heap.size + 1 + 1, 0, none⟩ (.int .i64 (cenX wd O i k + (k : Int) % (wd : Int)))).setCell ⟨w2.heap.size + 1 + 1 + 1, 0, none⟩ (.int .i64 (cenY wd O i k + (k : Int) / (wd : Int)))).setCell ⟨w2.heap.size, 0, none⟩ (.int .i64 ((k : Int) + 1))) (w2.heap.size + 1 + 1 + 1) 3 (.int .i64 (cenY wd O i (k + 1)))) := Lib.hid (by rw [Hs.out.2.2]; exact (((g6.other (by omega) _).other (by omega) _).set _).other (by omega) _)
            have F7 : Hid (Boxed ((((w4.setCell ⟨w2.heap.size + 1, 0, none⟩ (.int .i64 (((cntTo O i k : Nat) : Int) + 1))).setCell ⟨w2.heap.size + 1 + 1, 0, none⟩ (.int .i64 (cenX wd O i k + (k : Int) % (wd : Int)))).setCell ⟨w2.heap.size + 1 + 1 + 1, 0, none⟩ (.int .i64 (cenY wd O i k + (k : Int) / (wd : Int)))).setCell ⟨w2.heap.size, 0, none⟩ (.int .i64 ((k : Int) + 1))) (w2.heap.size + 1 + 1 + 1 + 1) 3 (.int .i64 wd)) := Lib.hid (((((box_ext h7 hE5).other (by omega) _).other (by omega) _).other (by omega) _).other (by omega) _)
            have F8 : Hid (Boxed ((((w4.setCell ⟨w2.heap.size + 1, 0, none⟩ (.int .i64 (((cntTo O i k : Nat) : Int) + 1))).setCell ⟨w2.heap.size + 1 + 1, 0, none⟩ (.int .i64 (cenX wd O i k + (k : Int) % (wd : Int)))).setCell ⟨w2.heap.size + 1 + 1 + 1, 0, none⟩ (.int .i64 (cenY wd O i k + (k : Int) / (wd : Int)))).setCell ⟨w2.heap.size, 0, none⟩ (.int .i64 ((k : Int) + 1))) (w2.heap.size + 1 + 1 + 1 + 1 + 1) 3 (.int .i64 ht)) := Lib.hid (((((box_ext h8 hE5).other (by omega) _).other (by omega) _).other (by omega) _).other (by omega) _)
            clear f3' c3
            have c3 := g3.cell
            have f3' := g3.frozen
            clear hsz0
            refine wpAnyIn_take (i := 3) (v := ?_) rfl rfl (by kernel_rfl) (by kernel_rfl) (by kernel_rfl) (fun _ _ _ h => h) ⟨Or.inl ⟨by rfl, ?_⟩, fun _ => rfl⟩ ?_
            rotate_left
            · intro w; go_simp; rfl
            refine wpAnyIn_take (i := 6) (v := ?_) rfl rfl (by kernel_rfl) (by kernel_rfl) (by kernel_rfl) (fun _ _ _ h => h) ⟨Or.inl ⟨by rfl, ?_⟩, fun _ => rfl⟩ ?_
            rotate_left
            · intro w; go_simp; rfl
            refine wpAnyIn_ready (rs := [0, 2, 5]) (by kernel_rfl) (by simp) (AllReadyIn.cons rfl (fun K hK => ?_) (AllReadyIn.cons rfl (fun K hK => ?_) (AllReadyIn.cons rfl (fun K hK => ?_) AllReadyIn.nil)))
            · go_simp
              refine hK _ _ ?_
              clear hK
              refine wpAnyIn_take (i := 1) (v := ?_) rfl rfl (by kernel_rfl) (by kernel_rfl) (by kernel_rfl) (fun _ _ _ h => h) ⟨Or.inl ⟨by rfl, ?_⟩, fun _ => rfl⟩ ?_
              rotate_left
              · intro w; go_simp; rfl
              refine wpAnyIn_ready (rs := [2, 5, 8]) (by kernel_rfl) (by simp) (AllReadyIn.cons rfl (fun K hK => ?_) (AllReadyIn.cons rfl (fun K hK => ?_) (AllReadyIn.cons rfl (fun K hK => ?_) AllReadyIn.nil)))
              · go_simp
                refine hK _ _ ?_
                clear hK
                refine wpAnyIn_take (i := 4) (v := ?_) rfl rfl (by kernel_rfl) (by kernel_rfl) (by kernel_rfl) (fun _ _ _ h => h) ⟨Or.inl ⟨by rfl, ?_⟩, fun _ => rfl⟩ ?_
                rotate_left
                · intro w; go_simp; rfl
                refine wpAnyIn_ready (rs := [5, 8]) (by kernel_rfl) (by simp) (AllReadyIn.cons rfl (fun K hK => ?_) (AllReadyIn.cons rfl (fun K hK => ?_) AllReadyIn.nil))
                · go_simp
                  refine hK _ _ ?_
                  clear hK
                  refine wpAnyIn_take (i := 7) (v := ?_) rfl rfl (by kernel_rfl) (by kernel_rfl) (by kernel_rfl) (fun _ _ _ h => h) ⟨Or.inl ⟨by rfl, ?_⟩, fun _ => rfl⟩ ?_
                  rotate_left
                  · intro w; go_simp; rfl
                  refine anyIn_of_drop 8 (by rfl) (by kernel_rfl) ?_
                  simp only [List.drop_succ_cons, List.drop_zero]
                  gi_wp2_with fail
                  exact ⟨((((((ext_keeps hE5).trans (KeepsOthers.setCell _ _ _)).trans (KeepsOthers.setCell _ _ _)).trans (KeepsOthers.setCell _ _ _)).trans (KeepsOthers.setCell _ _ _))), ((((hE.trans' hE5).setCell HB1.out _).setCell HB2.out _).setCell HB3.out _).setCell HB0.out _, F0.out, F1.out, F2.out, F3.out, F4.out, F5.out, F6.out, F7.out, F8.out⟩
                · go_simp
                  refine hK _ _ ?_
                  clear hK
                  refine wpAnyIn_ready (rs := [5, 9]) (by kernel_rfl) (by simp) (AllReadyIn.cons rfl (fun K hK => ?_) (AllReadyIn.cons rfl (fun K hK => ?_) AllReadyIn.nil))
                  · go_simp
                    refine hK _ _ ?_
                    clear hK
                    refine wpAnyIn_take (i := 7) (v := ?_) rfl rfl (by kernel_rfl) (by kernel_rfl) (by kernel_rfl) (fun _ _ _ h => h) ⟨Or.inl ⟨by rfl, ?_⟩, fun _ => rfl⟩ ?_
                    rotate_left
                    · intro w; go_simp; rfl
                    refine anyIn_of_drop 9 (by rfl) (by kernel_rfl) ?_
                    simp only [List.drop_succ_cons, List.drop_zero]
                    gi_wp2_with fail
                    exact ⟨((((((ext_keeps hE5).trans (KeepsOthers.setCell _ _ _)).trans (KeepsOthers.setCell _ _ _)).trans (KeepsOthers.setCell _ _ _)).trans (KeepsOthers.setCell _ _ _))), ((((hE.trans' hE5).setCell HB1.out _).setCell HB2.out _).setCell HB3.out _).setCell HB0.out _, F0.out, F1.out, F2.out, F3.out, F4.out, F5.out, F6.out, F7.out, F8.out⟩
                  · go_simp
                    refine hK _ _ ?_
                    clear hK
                    refine wpAnyIn_ready (rs := [5]) (by kernel_rfl) (by simp) (AllReadyIn.cons rfl (fun K hK => ?_) AllReadyIn.nil)
                    · go_simp
                      refine hK _ _ ?_
                      clear hK
                      refine wpAnyIn_take (i := 7) (v := ?_) rfl rfl (by kernel_rfl) (by kernel_rfl) (by kernel_rfl) (fun _ _ _ h => h) ⟨Or.inl ⟨by rfl, ?_⟩, fun _ => rfl⟩ ?_
                      rotate_left
                      · intro w; go_simp; rfl
                      refine anyIn_of_drop 10 (by rfl) (by kernel_rfl) ?_
                      simp only [List.drop_succ_cons, List.drop_zero]
                      gi_wp2_with fail
                      exact ⟨((((((ext_keeps hE5).trans (KeepsOthers.setCell _ _ _)).trans (KeepsOthers.setCell _ _ _)).trans (KeepsOthers.setCell _ _ _)).trans (KeepsOthers.setCell _ _ _))), ((((hE.trans' hE5).setCell HB1.out _).setCell HB2.out _).setCell HB3.out _).setCell HB0.out _, F0.out, F1.out, F2.out, F3.out, F4.out, F5.out, F6.out, F7.out, F8.out⟩
              · go_simp
                refine hK _ _ ?_
                clear hK
                refine wpAnyIn_take (i := 7) (v := ?_) rfl rfl (by kernel_rfl) (by kernel_rfl) (by kernel_rfl) (fun _ _ _ h => h) ⟨Or.inl ⟨by rfl, ?_⟩, fun _ => rfl⟩ ?_
                rotate_left
                · intro w; go_simp; rfl
                refine wpAnyIn_ready (rs := [2, 8]) (by kernel_rfl) (by simp) (AllReadyIn.cons rfl (fun K hK => ?_) (AllReadyIn.cons rfl (fun K hK => ?_) AllReadyIn.nil))
                · go_simp
                  refine hK _ _ ?_
                  clear hK
                  refine wpAnyIn_take (i := 4) (v := ?_) rfl rfl (by kernel_rfl) (by kernel_rfl) (by kernel_rfl) (fun _ _ _ h => h) ⟨Or.inl ⟨by rfl, ?_⟩, fun _ => rfl⟩ ?_
                  rotate_left
                  · intro w; go_simp; rfl
                  refine anyIn_of_drop 8 (by rfl) (by kernel_rfl) ?_
                  simp only [List.drop_succ_cons, List.drop_zero]
                  gi_wp2_with fail
                  exact ⟨((((((ext_keeps hE5).trans (KeepsOthers.setCell _ _ _)).trans (KeepsOthers.setCell _ _ _)).trans (KeepsOthers.setCell _ _ _)).trans (KeepsOthers.setCell _ _ _))), ((((hE.trans' hE5).setCell HB1.out _).setCell HB2.out _).setCell HB3.out _).setCell HB0.out _, F0.out, F1.out, F2.out, F3.out, F4.out, F5.out, F6.out, F7.out, F8.out⟩
                · go_simp
                  refine hK _ _ ?_
                  clear hK
                  refine wpAnyIn_ready (rs := [2]) (by kernel_rfl) (by simp) (AllReadyIn.cons rfl (fun K hK => ?_) AllReadyIn.nil)
                  · go_simp
                    refine hK _ _ ?_
                    clear hK
                    refine wpAnyIn_take (i := 4) (v := ?_) rfl rfl (by kernel_rfl) (by kernel_rfl) (by kernel_rfl) (fun _ _ _ h => h) ⟨Or.inl ⟨by rfl, ?_⟩, fun _ => rfl⟩ ?_
                    rotate_left
                    · intro w; go_simp; rfl
                    refine anyIn_of_drop 9 (by rfl) (by kernel_rfl) ?_
                    simp only [List.drop_succ_cons, List.drop_zero]
                    gi_wp2_with fail
                    exact ⟨((((((ext_keeps hE5).trans (KeepsOthers.setCell _ _ _)).trans (KeepsOthers.setCell _ _ _)).trans (KeepsOthers.setCell _ _ _)).trans (KeepsOthers.setCell _ _ _))), ((((hE.trans' hE5).setCell HB1.out _).setCell HB2.out _).setCell HB3.out _).setCell HB0.out _, F0.out, F1.out, F2.out, F3.out, F4.out, F5.out, F6.out, F7.out, F8.out⟩
              · go_simp
                refine hK _ _ ?_
                clear hK
                refine wpAnyIn_ready (rs := [2, 5]) (by kernel_rfl) (by simp) (AllReadyIn.cons rfl (fun K hK => ?_) (AllReadyIn.cons rfl (fun K hK => ?_) AllReadyIn.nil))
                · go_simp
                  refine hK _ _ ?_
                  clear hK
                  refine wpAnyIn_take (i := 4) (v := ?_) rfl rfl (by kernel_rfl) (by kernel_rfl) (by kernel_rfl) (fun _ _ _ h => h) ⟨Or.inl ⟨by rfl, ?_⟩, fun _ => rfl⟩ ?_
                  rotate_left
                  · intro w; go_simp; rfl
                  refine wpAnyIn_ready (rs := [5, 9]) (by kernel_rfl) (by simp) (AllReadyIn.cons rfl (fun K hK => ?_) (AllReadyIn.cons rfl (fun K hK => ?_) AllReadyIn.nil))
                  · go_simp
                    refine hK _ _ ?_
                    clear hK
                    refine wpAnyIn_take (i := 7) (v := ?_) rfl rfl (by kernel_rfl) (by kernel_rfl) (by kernel_rfl) (fun _ _ _ h => h) ⟨Or.inl ⟨by rfl, ?_⟩, fun _ => rfl⟩ ?_
                    rotate_left
                    · intro w; go_simp; rfl
                    refine anyIn_of_drop 9 (by rfl) (by kernel_rfl) ?_
                    simp only [List.drop_succ_cons, List.drop_zero]
                    gi_wp2_with fail
                    exact ⟨((((((ext_keeps hE5).trans (KeepsOthers.setCell _ _ _)).trans (KeepsOthers.setCell _ _ _)).trans (KeepsOthers.setCell _ _ _)).trans (KeepsOthers.setCell _ _ _))), ((((hE.trans' hE5).setCell HB1.out _).setCell HB2.out _).setCell HB3.out _).setCell HB0.out _, F0.out, F1.out, F2.out, F3.out, F4.out, F5.out, F6.out, F7.out, F8.out⟩
                  · go_simp
                    refine hK _ _ ?_
                    clear hK
                    refine wpAnyIn_ready (rs := [5]) (by kernel_rfl) (by simp) (AllReadyIn.cons rfl (fun K hK => ?_) AllReadyIn.nil)
                    · go_simp
                      refine hK _ _ ?_
                      clear hK
                      refine wpAnyIn_take (i := 7) (v := ?_) rfl rfl (by kernel_rfl) (by kernel_rfl) (by kernel_rfl) (fun _ _ _ h => h) ⟨Or.inl ⟨by rfl, ?_⟩, fun _ => rfl⟩ ?_
                      rotate_left
                      · intro w; go_simp; rfl
                      refine anyIn_of_drop 10 (by rfl) (by kernel_rfl) ?_
                      simp only [List.drop_succ_cons, List.drop_zero]
                      gi_wp2_with fail
                      exact ⟨((((((ext_keeps hE5).trans (KeepsOthers.setCell _ _ _)).trans (KeepsOthers.setCell _ _ _)).trans (KeepsOthers.setCell _ _ _)).trans (KeepsOthers.setCell _ _ _))), ((((hE.trans' hE5).setCell HB1.out _).setCell HB2.out _).setCell HB3.out _).setCell HB0.out _, F0.out, F1.out, F2.out, F3.out, F4.out, F5.out, F6.out, F7.out, F8.out⟩
                · go_simp
                  refine hK _ _ ?_
                  clear hK
                  refine wpAnyIn_take (i := 7) (v := ?_) rfl rfl (by kernel_rfl) (by kernel_rfl) (by kernel_rfl) (fun _ _ _ h => h) ⟨Or.inl ⟨by rfl, ?_⟩, fun _ => rfl⟩ ?_
                  rotate_left
                  · intro w; go_simp; rfl
                  refine wpAnyIn_ready (rs := [2]) (by kernel_rfl) (by simp) (AllReadyIn.cons rfl (fun K hK => ?_) AllReadyIn.nil)
                  · go_simp
                    refine hK _ _ ?_
                    clear hK
                    refine wpAnyIn_take (i := 4) (v := ?_) rfl rfl (by kernel_rfl) (by kernel_rfl) (by kernel_rfl) (fun _ _ _ h => h) ⟨Or.inl ⟨by rfl, ?_⟩, fun _ => rfl⟩ ?_
                    rotate_left
                    · intro w; go_simp; rfl
                    refine anyIn_of_drop 9 (by rfl) (by kernel_rfl) ?_
                    simp only [List.drop_succ_cons, List.drop_zero]
                    gi_wp2_with fail
                    exact ⟨((((((ext_keeps hE5).trans (KeepsOthers.setCell _ _ _)).trans (KeepsOthers.setCell _ _ _)).trans (KeepsOthers.setCell _ _ _)).trans (KeepsOthers.setCell _ _ _))), ((((hE.trans' hE5).setCell HB1.out _).setCell HB2.out _).setCell HB3.out _).setCell HB0.out _, F0.out, F1.out, F2.out, F3.out, F4.out, F5.out, F6.out, F7.out, F8.out⟩
            · go_simp
              refine hK _ _ ?_
              clear hK
              refine wpAnyIn_take (i := 4) (v := ?_) rfl rfl (by kernel_rfl) (by kernel_rfl) (by kernel_rfl) (fun _ _ _ h => h) ⟨Or.inl ⟨by rfl, ?_⟩, fun _ => rfl⟩ ?_
              rotate_left
              · intro w; go_simp; rfl
              refine wpAnyIn_ready (rs := [0, 5]) (by kernel_rfl) (by simp) (AllReadyIn.cons rfl (fun K hK => ?_) (AllReadyIn.cons rfl (fun K hK => ?_) AllReadyIn.nil))
              · go_simp
                refine hK _ _ ?_
                clear hK
                refine wpAnyIn_take (i := 1) (v := ?_) rfl rfl (by kernel_rfl) (by kernel_rfl) (by kernel_rfl) (fun _ _ _ h => h) ⟨Or.inl ⟨by rfl, ?_⟩, fun _ => rfl⟩ ?_
                rotate_left
                · intro w; go_simp; rfl
                refine wpAnyIn_ready (rs := [5, 8]) (by kernel_rfl) (by simp) (AllReadyIn.cons rfl (fun K hK => ?_) (AllReadyIn.cons rfl (fun K hK => ?_) AllReadyIn.nil))
                · go_simp
                  refine hK _ _ ?_
                  clear hK
                  refine wpAnyIn_take (i := 7) (v := ?_) rfl rfl (by kernel_rfl) (by kernel_rfl) (by kernel_rfl) (fun _ _ _ h => h) ⟨Or.inl ⟨by rfl, ?_⟩, fun _ => rfl⟩ ?_
                  rotate_left
                  · intro w; go_simp; rfl
                  refine anyIn_of_drop 8 (by rfl) (by kernel_rfl) ?_
                  simp only [List.drop_succ_cons, List.drop_zero]
                  gi_wp2_with fail
                  exact ⟨((((((ext_keeps hE5).trans (KeepsOthers.setCell _ _ _)).trans (KeepsOthers.setCell _ _ _)).trans (KeepsOthers.setCell _ _ _)).trans (KeepsOthers.setCell _ _ _))), ((((hE.trans' hE5).setCell HB1.out _).setCell HB2.out _).setCell HB3.out _).setCell HB0.out _, F0.out, F1.out, F2.out, F3.out, F4.out, F5.out, F6.out, F7.out, F8.out⟩
                · go_simp
                  refine hK _ _ ?_
                  clear hK
                  refine wpAnyIn_ready (rs := [5, 9]) (by kernel_rfl) (by simp) (AllReadyIn.cons rfl (fun K hK => ?_) (AllReadyIn.cons rfl (fun K hK => ?_) AllReadyIn.nil))
                  · go_simp
                    refine hK _ _ ?_
                    clear hK
                    refine wpAnyIn_take (i := 7) (v := ?_) rfl rfl (by kernel_rfl) (by kernel_rfl) (by kernel_rfl) (fun _ _ _ h => h) ⟨Or.inl ⟨by rfl, ?_⟩, fun _ => rfl⟩ ?_
                    rotate_left
                    · intro w; go_simp; rfl
                    refine anyIn_of_drop 9 (by rfl) (by kernel_rfl) ?_
                    simp only [List.drop_succ_cons, List.drop_zero]
                    gi_wp2_with fail
                    exact ⟨((((((ext_keeps hE5).trans (KeepsOthers.setCell _ _ _)).trans (KeepsOthers.setCell _ _ _)).trans (KeepsOthers.setCell _ _ _)).trans (KeepsOthers.setCell _ _ _))), ((((hE.trans' hE5).setCell HB1.out _).setCell HB2.out _).setCell HB3.out _).setCell HB0.out _, F0.out, F1.out, F2.out, F3.out, F4.out, F5.out, F6.out, F7.out, F8.out⟩
                  · go_simp
                    refine hK _ _ ?_
                    clear hK
                    refine wpAnyIn_ready (rs := [5]) (by kernel_rfl) (by simp) (AllReadyIn.cons rfl (fun K hK => ?_) AllReadyIn.nil)
                    · go_simp
                      refine hK _ _ ?_
                      clear hK
                      refine wpAnyIn_take (i := 7) (v := ?_) rfl rfl (by kernel_rfl) (by kernel_rfl) (by kernel_rfl) (fun _ _ _ h => h) ⟨Or.inl ⟨by rfl, ?_⟩, fun _ => rfl⟩ ?_
                      rotate_left
                      · intro w; go_simp; rfl
                      refine anyIn_of_drop 10 (by rfl) (by kernel_rfl) ?_
                      simp only [List.drop_succ_cons, List.drop_zero]
                      gi_wp2_with fail
                      exact ⟨((((((ext_keeps hE5).trans (KeepsOthers.setCell _ _ _)).trans (KeepsOthers.setCell _ _ _)).trans (KeepsOthers.setCell _ _ _)).trans (KeepsOthers.setCell _ _ _))), ((((hE.trans' hE5).setCell HB1.out _).setCell HB2.out _).setCell HB3.out _).setCell HB0.out _, F0.out, F1.out, F2.out, F3.out, F4.out, F5.out, F6.out, F7.out, F8.out⟩
              · go_simp
                refine hK _ _ ?_
                clear hK
                refine wpAnyIn_take (i := 7) (v := ?_) rfl rfl (by kernel_rfl) (by kernel_rfl) (by kernel_rfl) (fun _ _ _ h => h) ⟨Or.inl ⟨by rfl, ?_⟩, fun _ => rfl⟩ ?_
                rotate_left
                · intro w; go_simp; rfl
                refine wpAnyIn_ready (rs := [0]) (by kernel_rfl) (by simp) (AllReadyIn.cons rfl (fun K hK => ?_) AllReadyIn.nil)
                · go_simp
                  refine hK _ _ ?_
                  clear hK
                  refine wpAnyIn_take (i := 1) (v := ?_) rfl rfl (by kernel_rfl) (by kernel_rfl) (by kernel_rfl) (fun _ _ _ h => h) ⟨Or.inl ⟨by rfl, ?_⟩, fun _ => rfl⟩ ?_
                  rotate_left
                  · intro w; go_simp; rfl
                  refine anyIn_of_drop 8 (by rfl) (by kernel_rfl) ?_
                  simp only [List.drop_succ_cons, List.drop_zero]
                  gi_wp2_with fail
                  exact ⟨((((((ext_keeps hE5).trans (KeepsOthers.setCell _ _ _)).trans (KeepsOthers.setCell _ _ _)).trans (KeepsOthers.setCell _ _ _)).trans (KeepsOthers.setCell _ _ _))), ((((hE.trans' hE5).setCell HB1.out _).setCell HB2.out _).setCell HB3.out _).setCell HB0.out _, F0.out, F1.out, F2.out, F3.out, F4.out, F5.out, F6.out, F7.out, F8.out⟩
            · go_simp
              refine hK _ _ ?_
              clear hK
              refine wpAnyIn_take (i := 7) (v := ?_) rfl rfl (by kernel_rfl) (by kernel_rfl) (by kernel_rfl) (fun _ _ _ h => h) ⟨Or.inl ⟨by rfl, ?_⟩, fun _ => rfl⟩ ?_
              rotate_left
              · intro w; go_simp; rfl
              refine wpAnyIn_ready (rs := [0, 2]) (by kernel_rfl) (by simp) (AllReadyIn.cons rfl (fun K hK => ?_) (AllReadyIn.cons rfl (fun K hK => ?_) AllReadyIn.nil))
              · go_simp
                refine hK _ _ ?_
                clear hK
                refine wpAnyIn_take (i := 1) (v := ?_) rfl rfl (by kernel_rfl) (by kernel_rfl) (by kernel_rfl) (fun _ _ _ h => h) ⟨Or.inl ⟨by rfl, ?_⟩, fun _ => rfl⟩ ?_
                rotate_left
                · intro w; go_simp; rfl
                refine wpAnyIn_ready (rs := [2, 8]) (by kernel_rfl) (by simp) (AllReadyIn.cons rfl (fun K hK => ?_) (AllReadyIn.cons rfl (fun K hK => ?_) AllReadyIn.nil))
                · go_simp
                  refine hK _ _ ?_
                  clear hK
                  refine wpAnyIn_take (i := 4) (v := ?_) rfl rfl (by kernel_rfl) (by kernel_rfl) (by kernel_rfl) (fun _ _ _ h => h) ⟨Or.inl ⟨by rfl, ?_⟩, fun _ => rfl⟩ ?_
                  rotate_left
                  · intro w; go_simp; rfl
                  refine anyIn_of_drop 8 (by rfl) (by kernel_rfl) ?_
                  simp only [List.drop_succ_cons, List.drop_zero]
                  gi_wp2_with fail
                  exact ⟨((((((ext_keeps hE5).trans (KeepsOthers.setCell _ _ _)).trans (KeepsOthers.setCell _ _ _)).trans (KeepsOthers.setCell _ _ _)).trans (KeepsOthers.setCell _ _ _))), ((((hE.trans' hE5).setCell HB1.out _).setCell HB2.out _).setCell HB3.out _).setCell HB0.out _, F0.out, F1.out, F2.out, F3.out, F4.out, F5.out, F6.out, F7.out, F8.out⟩
                · go_simp
                  refine hK _ _ ?_
                  clear hK
                  refine wpAnyIn_ready (rs := [2]) (by kernel_rfl) (by simp) (AllReadyIn.cons rfl (fun K hK => ?_) AllReadyIn.nil)
                  · go_simp
                    refine hK _ _ ?_
                    clear hK
                    refine wpAnyIn_take (i := 4) (v := ?_) rfl rfl (by kernel_rfl) (by kernel_rfl) (by kernel_rfl) (fun _ _ _ h => h) ⟨Or.inl ⟨by rfl, ?_⟩, fun _ => rfl⟩ ?_
                    rotate_left
                    · intro w; go_simp; rfl
                    refine anyIn_of_drop 9 (by rfl) (by kernel_rfl) ?_
                    simp only [List.drop_succ_cons, List.drop_zero]
                    gi_wp2_with fail
                    exact ⟨((((((ext_keeps hE5).trans (KeepsOthers.setCell _ _ _)).trans (KeepsOthers.setCell _ _ _)).trans (KeepsOthers.setCell _ _ _)).trans (KeepsOthers.setCell _ _ _))), ((((hE.trans' hE5).setCell HB1.out _).setCell HB2.out _).setCell HB3.out _).setCell HB0.out _, F0.out, F1.out, F2.out, F3.out, F4.out, F5.out, F6.out, F7.out, F8.out⟩
              · go_simp
                refine hK _ _ ?_
                clear hK
                refine wpAnyIn_take (i := 4) (v := ?_) rfl rfl (by kernel_rfl) (by kernel_rfl) (by kernel_rfl) (fun _ _ _ h => h) ⟨Or.inl ⟨by rfl, ?_⟩, fun _ => rfl⟩ ?_
                rotate_left
                · intro w; go_simp; rfl
                refine wpAnyIn_ready (rs := [0]) (by kernel_rfl) (by simp) (AllReadyIn.cons rfl (fun K hK => ?_) AllReadyIn.nil)
                · go_simp
                  refine hK _ _ ?_
                  clear hK
                  refine wpAnyIn_take (i := 1) (v := ?_) rfl rfl (by kernel_rfl) (by kernel_rfl) (by kernel_rfl) (fun _ _ _ h => h) ⟨Or.inl ⟨by rfl, ?_⟩, fun _ => rfl⟩ ?_
                  rotate_left
                  · intro w; go_simp; rfl
                  refine anyIn_of_drop 8 (by rfl) (by kernel_rfl) ?_
                  simp only [List.drop_succ_cons, List.drop_zero]
                  gi_wp2_with fail
                  exact ⟨((((((ext_keeps hE5).trans (KeepsOthers.setCell _ _ _)).trans (KeepsOthers.setCell _ _ _)).trans (KeepsOthers.setCell _ _ _)).trans (KeepsOthers.setCell _ _ _))), ((((hE.trans' hE5).setCell HB1.out _).setCell HB2.out _).setCell HB3.out _).setCell HB0.out _, F0.out, F1.out, F2.out, F3.out, F4.out, F5.out, F6.out, F7.out, F8.out⟩
          · have Hs := Lib.hid (cen_not (wd := wd) hkO heq)
            have hb : (O[k] == i) = false := by simp [heq]
            clear heq
            gi_wp2_with fail
            refine wpIn_region_ext (r := some l0) (by kernel_rfl) (by kernel_rfl) (by kernel_rfl) ?_
            repeat (go_big_quiet_step (fail))
            refine wpQuiet_nil ?_
            intro w3 hE3
            have g3 := box_ext h3 hE3
            clear c0 l0' c1 l1' c3 l3' hcO
            have c3 := g3.cell
            have f3' := g3.frozen
            gi_wp2_with fail
            have e5 : Boxed (w3.setCell ⟨w2.heap.size, 0, none⟩ (.int .i64 ((k : Int) + 1))) w2.heap.size 3 (.int .i64 ((k + 1 : Nat) : Int)) := by
              rw [show ((k + 1 : Nat) : Int) = (k : Int) + 1 by omega]; exact g3.set _
            refine ⟨(ext_keeps hE3).trans (KeepsOthers.setCell _ _ _), (hE.trans' hE3).setCell (show w.heap.size ≤ w2.heap.size by have := hE0.size; omega) _, (box_ext h0 hE3).other (by omega) _, (box_ext h1 hE3).other (by omega) _, (h2.ext hE3).other (by omega) _, e5, ?_, ?_, ?_, (box_ext h7 hE3).other (by omega) _, (box_ext h8 hE3).other (by omega) _⟩
            · rw [Hs.out.1]; exact (box_ext h4 hE3).other (by omega) _
            · rw [Hs.out.2.1]; exact (box_ext h5 hE3).other (by omega) _
            · rw [Hs.out.2.2]; exact (box_ext h6 hE3).other (by omega) _
        case done =>
          rintro D W hD ⟨hE, h0, h1, h2, h3, h4, h5, h6, h7, h8⟩ hK
          have hD2 : w2.heap.size ≤ D := by simp at hD; omega
          rw [HN.out] at h4 h5 h6
          have c4 := h4.cell
          have c5 := h5.cell
          have c6 := h6.cell
          have z0 := zer4_cell h2 (j := 0) (by omega)
          have z1 := zer4_cell h2 (j := 1) (by omega)
          have z2 := zer4_cell h2 (j := 2) (by omega)
          have z3 := zer4_cell h2 (j := 3) (by omega)
          have zf := zer4_frozen h2
          have q5 := cntTo_le O i O.length
          obtain ⟨⟨q1, q2⟩, q3, q4⟩ := Hcb.out O.length (by omega)
          rcases Hfin.out with ⟨hz0, e1, e2⟩ | ⟨hz0, e1, e2⟩
          · have hb : (((cntTo O i O.length : Nat) : Int) == 0) = true := by rw [hz0]; rfl
            have E1 := Lib.hid e1
            have E2 := Lib.hid e2
            clear hz0 e1 e2
            generalize ((cntTo O i O.length : Nat) : Int) = cn at *
            generalize cenX wd O i O.length = sx at *
            generalize cenY wd O i O.length = sy at *
            go_wp2_with fail
            have hK2 := heap_set (heap_set (heap_set (heap_set hK (a := ⟨w.heap.size + 1 + 1, 0, none⟩) (show D ≠ w.heap.size + 1 + 1 by omega) (.int .i64 0)) (a := ⟨w.heap.size + 1 + 1, 1, none⟩) (show D ≠ w.heap.size + 1 + 1 by omega) (.int .i64 0)) (a := ⟨w.heap.size + 1 + 1, 2, none⟩) (show D ≠ w.heap.size + 1 + 1 by omega) (.int .i64 0)) (a := ⟨w.heap.size + 1 + 1, 3, none⟩) (show D ≠ w.heap.size + 1 + 1 by omega) (.int .i64 0)
            refine ⟨by simp, .inl ⟨_, _, rfl, run_takeDeferred hK2, ?_⟩⟩
            have hne : ∀ j, (Addr.mk (w.heap.size + 1 + 1) j none).block ≠ D := fun j => by show w.heap.size + 1 + 1 ≠ D; omega
            refine ⟨.tuple #[ratZ, .int .i64 4], by simp [results, Try.results39, go_sem, ratZ, cell_putObj (hne _), z0, z1, z2, z3], by rw [E1.out, E2.out], ?_⟩
            exact ext_putObj ((((hE.setCell (show w.heap.size ≤ w.heap.size + 1 + 1 by omega) _).setCell (show w.heap.size ≤ w.heap.size + 1 + 1 by omega) _).setCell (show w.heap.size ≤ w.heap.size + 1 + 1 by omega) _).setCell (show w.heap.size ≤ w.heap.size + 1 + 1 by omega) _) (by omega) _
          · have hb : (((cntTo O i O.length : Nat) : Int) == 0) = false := by simp; omega
            have hc0 : ((cntTo O i O.length : Nat) : Int) ≠ 0 := by omega
            have hc1 : ((cntTo O i O.length : Nat) : Int) ≤ 144 := by omega
            have hc2 : 0 ≤ ((cntTo O i O.length : Nat) : Int) := by omega
            have E1 := Lib.hid e1
            have E2 := Lib.hid e2
            clear hz0 e1 e2
            generalize ((cntTo O i O.length : Nat) : Int) = cn at *
            generalize cenX wd O i O.length = sx at *
            generalize cenY wd O i O.length = sy at *
            have hr1 := fun W => f76_c sx cn W hc0 (by omega) (by omega) (by omega) (by omega)
            have hr2 := fun W => f76_c sy cn W hc0 (by omega) (by omega) (by omega) (by omega)
            simp only [ratV_is] at hr1 hr2
            unfold rat2 at E2
            generalize ratN sx cn = A1 at *
            generalize ratD sx cn = A2 at *
            generalize ratN sy cn = A3 at *
            generalize ratD sy cn = A4 at *
            have Hr1 := Lib.hid hr1
            have Hr2 := Lib.hid hr2
            have l4' := h4.lt
            have l5' := h5.lt
            have l6' := h6.lt
            clear hr1 hr2
            go_wp2_with fail
            refine wp_region_ext_tail 7 (by kernel_rfl) (by kernel_rfl) ?_
            simp only [List.take_succ_cons, List.take_zero, List.drop_succ_cons, List.drop_zero]
            go_big_quiet_step (fail)
            go_big_quiet_step (fail)
            go_big_quiet_step ((go_at_call 76; exact quiet_ext (Hr1.out _)))
            go_big_quiet_step (fail)
            go_big_quiet_step (fail)
            go_big_quiet_step ((go_at_call 76; exact quiet_ext (Hr2.out _)))
            go_big_quiet_step (fail)
            refine wpQuiet_nil ?_
            intro w3 hE3
            have h2' := h2.ext hE3
            have hE4 := hE.trans' hE3
            clear z0 z1 z2 z3 zf c4 c5 c6
            have z0 := zer4_cell h2' (j := 0) (by omega)
            have z1 := zer4_cell h2' (j := 1) (by omega)
            have z2 := zer4_cell h2' (j := 2) (by omega)
            have z3 := zer4_cell h2' (j := 3) (by omega)
            have zf := zer4_frozen h2'
            have hK := (hE3.block D (Array.getElem?_eq_some_iff.1 hK).1).trans hK
            go_wp2_with fail
            have hK2 := heap_set (heap_set (heap_set (heap_set hK (a := ⟨w.heap.size + 1 + 1, 0, none⟩) (show D ≠ w.heap.size + 1 + 1 by omega) (.int .i64 A1)) (a := ⟨w.heap.size + 1 + 1, 1, none⟩) (show D ≠ w.heap.size + 1 + 1 by omega) (.int .i64 A2)) (a := ⟨w.heap.size + 1 + 1, 2, none⟩) (show D ≠ w.heap.size + 1 + 1 by omega) (.int .i64 A3)) (a := ⟨w.heap.size + 1 + 1, 3, none⟩) (show D ≠ w.heap.size + 1 + 1 by omega) (.int .i64 A4)
            refine ⟨by simp, .inl ⟨_, _, rfl, run_takeDeferred hK2, ?_⟩⟩
            have hne : ∀ j, (Addr.mk (w.heap.size + 1 + 1) j none).block ≠ D := fun j => by show w.heap.size + 1 + 1 ≠ D; omega
            refine ⟨.tuple #[.agg #[.int .i64 A1, .int .i64 A2, .int .i64 A3, .int .i64 A4], .int .i64 0], by simp [results, Try.results39, go_sem, cell_putObj (hne _), z0, z1, z2, z3], by rw [E1.out, E2.out], ?_⟩
            exact ext_putObj ((((hE4.setCell (show w.heap.size ≤ w.heap.size + 1 + 1 by omega) _).setCell (show w.heap.size ≤ w.heap.size + 1 + 1 by omega) _).setCell (show w.heap.size ≤ w.heap.size + 1 + 1 by omega) _).setCell (show w.heap.size ≤ w.heap.size + 1 + 1 by omega) _) (by omega) _
        case stop =>
          rintro D c k W _ _ h _
          exact h.elim
      · have he : errOf (okOwned l x y O) = 1 := by rw [how]; rfl
        simp only [he] at hc2
        rw [(cen_own hok hi how).1, (cen_own hok hi how).2]
        have Hc2 := Lib.hid hc2
        clear hc hc2 hok hi how he he1
        refine calls_range Try.func39 rfl ?_
        simp only [Try.ntmps39, List.size_toArray, List.length_cons, List.length_nil, Nat.reduceAdd, Nat.reduceSub, Array.replicate_succ, Array.replicate_zero, List.push_toArray, List.append_toArray, List.nil_append, List.cons_append]
        go_wp2_with fail
        rw [← HW0.out]
        refine Hc.out.mono ?_
        rintro e w1 ⟨rfl, hE1⟩
        clear Hc HW0
        have c1 := (box_ext b1 hE1).cell
        have c0 := (box_ext b0 hE1).cell
        go_wp2_with fail
        refine (Hc2.out _ (hl0.ext hE1) (hO0.ext hE1)).mono ?_
        rintro e w2 ⟨rfl, hE2⟩
        clear Hc2 c1 c0
        have hE12 := hE1.trans' hE2
        have b2 := b2.ext hE12
        have hE0 := hEb.trans' hE12
        have z0 := zer4_cell b2 (j := 0) (by omega)
        have z1 := zer4_cell b2 (j := 1) (by omega)
        have z2 := zer4_cell b2 (j := 2) (by omega)
        have z3 := zer4_cell b2 (j := 3) (by omega)
        have zf := zer4_frozen b2
        go_wp2_with fail
        refine ⟨.tuple #[ratZ, .int .i64 1], by simp [results, Try.results39, go_sem, ratZ, z0, z1, z2, z3], rfl, ?_⟩
        exact (((hE0.setCell (show w.heap.size ≤ w.heap.size + 1 + 1 by omega) _).setCell (show w.heap.size ≤ w.heap.size + 1 + 1 by omega) _).setCell (show w.heap.size ≤ w.heap.size + 1 + 1 by omega) _).setCell (show w.heap.size ≤ w.heap.size + 1 + 1 by omega) _
    · rw [(cen_no hok hi).1, (cen_no hok hi).2]
      have hib : ¬ (0 ≤ i ∧ i ≤ (l.length : Int) - 1) := fun h => by
        have := withinB_iff.2 h
        rw [show withinB i 0 ((l.length : Int) - 1) = isNo l i from rfl, hi] at this
        cases this
      clear hc hok hi he1
      by_cases hneg : i < 0
      · have d1 : decide (i < 0) = true := by simpa using hneg
        refine calls_range Try.func39 rfl ?_
        simp only [Try.ntmps39, List.size_toArray, List.length_cons, List.length_nil, Nat.reduceAdd, Nat.reduceSub, Array.replicate_succ, Array.replicate_zero, List.push_toArray, List.append_toArray, List.nil_append, List.cons_append]
        go_wp2_with fail
        rw [← HW0.out]
        refine Hc.out.mono ?_
        rintro e w1 ⟨rfl, hE1⟩
        clear Hc HW0
        have c1 := (box_ext b1 hE1).cell
        have b2 := b2.ext hE1
        have hE0 := hEb.trans' hE1
        have z0 := zer4_cell b2 (j := 0) (by omega)
        have z1 := zer4_cell b2 (j := 1) (by omega)
        have z2 := zer4_cell b2 (j := 2) (by omega)
        have z3 := zer4_cell b2 (j := 3) (by omega)
        have zf := zer4_frozen b2
        go_wp2_with fail
        refine ⟨.tuple #[ratZ, .int .i64 4], by simp [results, Try.results39, go_sem, ratZ, z0, z1, z2, z3], rfl, ?_⟩
        exact (((hE0.setCell (show w.heap.size ≤ w.heap.size + 1 + 1 by omega) _).setCell (show w.heap.size ≤ w.heap.size + 1 + 1 by omega) _).setCell (show w.heap.size ≤ w.heap.size + 1 + 1 by omega) _).setCell (show w.heap.size ≤ w.heap.size + 1 + 1 by omega) _
      · have d1 : decide (i < 0) = false := by simpa using hneg
        have d2 : decide ((n : Int) ≤ i) = true := by simp; omega
        refine calls_range Try.func39 rfl ?_
        simp only [Try.ntmps39, List.size_toArray, List.length_cons, List.length_nil, Nat.reduceAdd, Nat.reduceSub, Array.replicate_succ, Array.replicate_zero, List.push_toArray, List.append_toArray, List.nil_append, List.cons_append]
        go_wp2_with fail
        rw [← HW0.out]
        refine Hc.out.mono ?_
        rintro e w1 ⟨rfl, hE1⟩
        clear Hc HW0
        have c1 := (box_ext b1 hE1).cell
        have b2 := b2.ext hE1
        have hE0 := hEb.trans' hE1
        have z0 := zer4_cell b2 (j := 0) (by omega)
        have z1 := zer4_cell b2 (j := 1) (by omega)
        have z2 := zer4_cell b2 (j := 2) (by omega)
        have z3 := zer4_cell b2 (j := 3) (by omega)
        have zf := zer4_frozen b2
        go_wp2_with fail
        refine ⟨.tuple #[ratZ, .int .i64 4], by simp [results, Try.results39, go_sem, ratZ, z0, z1, z2, z3], rfl, ?_⟩
        exact (((hE0.setCell (show w.heap.size ≤ w.heap.size + 1 + 1 by omega) _).setCell (show w.heap.size ≤ w.heap.size + 1 + 1 by omega) _).setCell (show w.heap.size ≤ w.heap.size + 1 + 1 by omega) _).setCell (show w.heap.size ≤ w.heap.size + 1 + 1 by omega) _
  · have he1 : errOf (okSites l) = 1 := by rw [hok]; rfl
    rw [he1] at hc
    rw [(cen_bad hok).1, (cen_bad hok).2]
    have Hc := Lib.hid hc
    clear hc hok he1
    refine calls_range Try.func39 rfl ?_
    simp only [Try.ntmps39, List.size_toArray, List.length_cons, List.length_nil, Nat.reduceAdd, Nat.reduceSub, Array.replicate_succ, Array.replicate_zero, List.push_toArray, List.append_toArray, List.nil_append, List.cons_append]
    go_wp2_with fail
    rw [← HW0.out]
    refine Hc.out.mono ?_
    rintro e w1 ⟨rfl, hE1⟩
    clear Hc HW0
    have b2 := b2.ext hE1
    have hE0 := hEb.trans' hE1
    have z0 := zer4_cell b2 (j := 0) (by omega)
    have z1 := zer4_cell b2 (j := 1) (by omega)
    have z2 := zer4_cell b2 (j := 2) (by omega)
    have z3 := zer4_cell b2 (j := 3) (by omega)
    have zf := zer4_frozen b2
    go_wp2_with fail
    refine ⟨.tuple #[ratZ, .int .i64 1], by simp [results, Try.results39, go_sem, ratZ, z0, z1, z2, z3], rfl, ?_⟩
    exact (((hE0.setCell (show w.heap.size ≤ w.heap.size + 1 + 1 by omega) _).setCell (show w.heap.size ≤ w.heap.size + 1 + 1 by omega) _).setCell (show w.heap.size ≤ w.heap.size + 1 + 1 by omega) _).setCell (show w.heap.size ≤ w.heap.size + 1 + 1 by omega) _
end Go.Proofs.Ytodlbgncdggimaa
