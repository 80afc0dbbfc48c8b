/- Contracts of layer 6: cross ratios of tables of fractions. -/
import Derived.Test.YtaidoaggmllcfaaT14
import Derived.Test.YtaidoaggmllcfaaFill
namespace Go.Proofs.Ytaidoaggmllcfaa
open Go.RowKit
attribute [local go_sem] GW.cell

theorem run_alloc46 (ρ : Operand → Value) (W : World) (d : Option Tmp) (ty : TypeId) (pos : String) (af : Array Edge) : (execOp ρ ⟨d, .alloc 46, ty, pos, af, none⟩).run Try.prog W = .ok (.value (ptrV W.heap.size)) (W.alloc (.cells #[.int .i64 0, .int .i64 0] 46)) := by
  simp [go_sem, ptrV]
/-- a block of two values -/
def Pair (W : World) (B : Nat) (T : TypeId) (a b : Value) : Prop := W.heap[B]? = some (.cells #[a, b] T)
section
variable {X Y : World} {B : Nat} {T : TypeId} {a b : Value}
theorem Pair.new (W : World) (T : TypeId) (a b : Value) : Pair (W.alloc (.cells #[a, b] T)) W.heap.size T a b := heap_alloc_new W _
theorem Pair.lt (h : Pair X B T a b) : B < X.heap.size := (Array.getElem?_eq_some_iff.1 h).1
theorem Pair.ext (h : Pair X B T a b) (hE : Ext X Y) : Pair Y B T a b := (hE.block B h.lt).trans h
theorem Pair.other (h : Pair X B T a b) {B' : Nat} (hne : B ≠ B') (i : Nat) (u : Value) : Pair (X.setCell ⟨B', i, none⟩ u) B T a b := (Below.heap_setCell X ⟨B', i, none⟩ u B hne).trans h
theorem Pair.cell0 (h : Pair X B T a b) : X.cell? ⟨B, 0, none⟩ = some a := by simp [World.cell?, show X.heap[B]? = _ from h]
theorem Pair.cell1 (h : Pair X B T a b) : X.cell? ⟨B, 1, none⟩ = some b := by simp [World.cell?, show X.heap[B]? = _ from h]
theorem Pair.frozen (h : Pair X B T a b) (j : Nat) : X.frozen? ⟨B, j, none⟩ = false := by simp [World.frozen?, show X.heap[B]? = _ from h]
theorem Pair.set0 (h : Pair X B T a b) (u : Value) : Pair (X.setCell ⟨B, 0, none⟩ u) B T u b := by
  obtain ⟨hlt, hk⟩ := Array.getElem?_eq_some_iff.1 (show X.heap[B]? = some (.cells #[a, b] T) from h)
  show (X.heap.modify B _)[B]? = _
  rw [Array.getElem?_eq_getElem (by rw [Array.size_modify]; exact hlt), Array.getElem_modify_self, hk]
  rfl
theorem Pair.set1 (h : Pair X B T a b) (u : Value) : Pair (X.setCell ⟨B, 1, none⟩ u) B T a u := by
  obtain ⟨hlt, hk⟩ := Array.getElem?_eq_some_iff.1 (show X.heap[B]? = some (.cells #[a, b] T) from h)
  show (X.heap.modify B _)[B]? = _
  rw [Array.getElem?_eq_getElem (by rw [Array.size_modify]; exact hlt), Array.getElem_modify_self, hk]
  rfl
end
theorem fill_store46 {a : Act} {W : World} {B : Nat} {s u : Tmp} {ty : TypeId} {pos : String} {af : Array Edge} {x y : Int} (h1 : a.tmps[s]? = some (ptrV B)) (h2 : a.tmps[u]? = some (.agg #[.int .i64 x, .int .i64 y])) (h3 : W.heap[B]? = some (.cells #[.int .i64 0, .int .i64 0] 46)) :
    ∃ W', (execOp a.eval ⟨none, .store 46 (.tmp s) (.tmp u), ty, pos, af, none⟩).run Try.prog W = .ok .skip W' ∧ W'.heap[B]? = some (.cells #[.int .i64 x, .int .i64 y] 46) ∧ (∀ B', B' ≠ B → W'.heap[B']? = W.heap[B']?) ∧ ∀ w, Ext w W → w.heap.size ≤ B → Ext w W' := by
  have hq : Pair W B 46 (.int .i64 0) (.int .i64 0) := h3
  refine ⟨(W.setCell ⟨B, 0, none⟩ (.int .i64 x)).setCell ⟨B, 1, none⟩ (.int .i64 y), ?_, (hq.set0 _).set1 _, fun B' hne => ?_, fun w hE hb => ext_set2 hE hb _ _⟩
  · have a0 := hq.cell0
    have a1 := (hq.set0 (.int .i64 x)).cell1
    have f0 := fun i => hq.frozen i
    have f1 := fun i => (hq.set0 (.int .i64 x)).frozen i
    have e1 : a.tmps.getD s undef = ptrV B := by rw [Array.getD_eq_getD_getElem?, h1]; rfl
    have e2 : a.tmps.getD u undef = .agg #[.int .i64 x, .int .i64 y] := by rw [Array.getD_eq_getD_getElem?, h2]; rfl
    unfold ptrV at e1
    simp [go_sem, Act.eval, e1, e2, a0, a1, f0, f1]
  · exact (Below.heap_setCell _ ⟨B, 1, none⟩ _ B' hne).trans (Below.heap_setCell _ ⟨B, 0, none⟩ _ B' hne)

set_option maxRecDepth 20000 in
set_option maxHeartbeats 8000000 in
theorem f30_c (a : Option Addr) (len cp : Nat) (t : List (List Rat)) (i j m n : Int) (w : World) (hl : RatT w a t) (hn : t.length = len) (hlen : len ≤ 1000000) (hin : ∀ q, (hq : q < t.length) → t[q].length ≤ 1000000) :
    Calls Try.prog 30 #[.slice a len cp, .int .i64 i, .int .i64 j, .int .i64 m, .int .i64 n] w (RetRat t i j m n w) := by
  have HB := Lib.hid (BlkC.new w #[.int .i64 0, .int .i64 0] 46)
  have hE0 := ext_alloc w (.cells #[.int .i64 0, .int .i64 0] 46)
  have hlt := HB.out.lt
  have C1 := fun W (h : Ext w W) => f74_c a len cp t W (hl.ext h) hn hlen hin
  cases h1 : fracB t
  · rw [h1] at C1
    have C1 := Lib.hid C1
    have he : crErr t i j m n = 1 := by unfold crErr; rw [h1]; rfl
    have Hf : Hid (∀ W, Ext w W → RetRat t i j m n w (.returned (.tuple #[.agg #[.int .i64 0, .int .i64 0], .int .i64 1])) W) := Lib.hid (fun W h => ⟨by rw [crV_bad (by omega), he], h⟩)
    clear h1 he
    go_enter Try.func30, Try.ntmps30
    go_wp2_with fail
    generalize w.alloc (.cells #[.int .i64 0, .int .i64 0] 46) = w0 at *
    refine (C1.out _ hE0).mono ?_
    rintro e w1 ⟨rfl, hX1⟩
    have hE1 := hE0.trans' hX1
    have g0 := (HB.out.ext hX1).cellv 0 (v := .int .i64 0) rfl
    have g1 := (HB.out.ext hX1).cellv 1 (v := .int .i64 0) rfl
    have gf := (HB.out.ext hX1).frozen
    go_wp2_with fail
    refine bodyPost_ret (v := .tuple #[.agg #[.int .i64 0, .int .i64 0], .int .i64 1]) (by simp [results, Try.results30, go_sem, g0, g1]) rfl (Hf.out _ ?_)
    exact ext_set2 hE1 (Nat.le_refl _) _ _
  obtain ⟨⟨hn1, hn5⟩, ⟨hm1, hm5⟩, hrows⟩ := fracB_at h1
  rw [h1] at C1
  have C1 := Lib.hid C1
  obtain ⟨b0, o0, a0, c0, rfl, hb0, hc0, hI0⟩ := hl 0 (by omega)
  have hr0 : rrow t 0 = t[0] := rrow_at (by omega)
  rw [← hr0] at hc0
  simp only [Nat.add_zero] at hc0
  have C2 := fun W => f75_c (t.length : Int) ((rrow t 0).length : Int) i j m n W (by omega) (by omega)
  rw [hn] at C2
  cases h2 : placedB t.length (rrow t 0).length i j m n
  · have he : crErr t i j m n = 4 := by unfold crErr; rw [h1, h2]; rfl
    rw [hn] at h2
    rw [h2] at C2
    rw [if_neg (by decide)] at C2
    have C2 := Lib.hid C2
    have Hf : Hid (∀ W, Ext w W → RetRat t i j m n w (.returned (.tuple #[.agg #[.int .i64 0, .int .i64 0], .int .i64 4])) W) := Lib.hid (fun W h => ⟨by rw [crV_bad (by omega), he], h⟩)
    have hlen0 : 0 < len := by omega
    clear h1 h2 he hr0 hI0 hrows hn
    generalize (rrow t 0).length = M at *
    go_enter Try.func30, Try.ntmps30
    go_wp2_with fail
    generalize w.alloc (.cells #[.int .i64 0, .int .i64 0] 46) = w0 at *
    refine (C1.out _ hE0).mono ?_
    rintro e w1 ⟨rfl, hX1⟩
    have hE1 := hE0.trans' hX1
    have hc1 := (hE1.cell' hb0).trans hc0
    go_wp2_with fail
    refine (C2.out _).mono ?_
    rintro e w2 ⟨rfl, hX2⟩
    have hE2 := hE1.trans' hX2
    have hX2 := hX1.trans' hX2
    have g0 := (HB.out.ext hX2).cellv 0 (v := .int .i64 0) rfl
    have g1 := (HB.out.ext hX2).cellv 1 (v := .int .i64 0) rfl
    have gf := (HB.out.ext hX2).frozen
    go_wp2_with fail
    refine bodyPost_ret (v := .tuple #[.agg #[.int .i64 0, .int .i64 0], .int .i64 4]) (by simp [results, Try.results30, go_sem, g0, g1]) rfl (Hf.out _ ?_)
    exact ext_set2 hE2 (Nat.le_refl _) _ _
  obtain ⟨p1, p2, p3, p4⟩ := placed_in h2
  have he : crErr t i j m n = if (rg t i.toNat n.toNat).num = 0 ∨ (rg t m.toNat j.toNat).num = 0 then 6 else 0 := by unfold crErr; rw [h1, h2]; rfl
  rw [hn] at h2
  rw [h2] at C2
  rw [if_pos rfl] at C2
  have C2 := Lib.hid C2
  obtain ⟨i, rfl⟩ := Int.eq_ofNat_of_zero_le p1.1
  obtain ⟨j, rfl⟩ := Int.eq_ofNat_of_zero_le p3.1
  obtain ⟨m, rfl⟩ := Int.eq_ofNat_of_zero_le p2.1
  obtain ⟨n, rfl⟩ := Int.eq_ofNat_of_zero_le p4.1
  simp only [Int.toNat_natCast] at he
  have hi : i < t.length := by omega
  have hm : m < t.length := by omega
  have hj : j < (rrow t 0).length := by omega
  have hnn : n < (rrow t 0).length := by omega
  obtain ⟨li, vi⟩ := hrows i hi
  obtain ⟨lm, vm⟩ := hrows m hm
  have ea := rg_at hi (show j < t[i].length by omega)
  have eb := rg_at hm (show n < t[m].length by omega)
  have ec := rg_at hi (show n < t[i].length by omega)
  have ed := rg_at hm (show j < t[m].length by omega)
  have ba := validR_bd (vi j (by omega))
  have bb := validR_bd (vm n (by omega))
  have bc := validR_bd (vi n (by omega))
  have bd := validR_bd (vm j (by omega))
  obtain ⟨b1, o1, a1, c1, e1, hb1, hc1, hI1⟩ := hl i hi
  obtain ⟨b2, o2, a2, c2, e2, hb2, hc2, hI2⟩ := hl m hm
  simp only [Option.some.injEq, Addr.mk.injEq, and_true] at e1 e2
  obtain ⟨rfl, rfl⟩ := e1
  obtain ⟨rfl, rfl⟩ := e2
  obtain ⟨b3, o3, rfl, hb3, xa, ya⟩ := hI1 j (by omega)
  obtain ⟨b3', o3', e3, _, xc, yc⟩ := hI1 n (by omega)
  simp only [Option.some.injEq, Addr.mk.injEq, and_true] at e3
  obtain ⟨rfl, rfl⟩ := e3
  obtain ⟨b4, o4, rfl, hb4, xb, yb⟩ := hI2 n (by omega)
  obtain ⟨b4', o4', e4, _, xd, yd⟩ := hI2 j (by omega)
  simp only [Option.some.injEq, Addr.mk.injEq, and_true] at e4
  obtain ⟨rfl, rfl⟩ := e4
  rw [← ea] at xa ya ba
  rw [← eb] at xb yb bb
  rw [← ec] at xc yc bc
  rw [← ed] at xd yd bd
  rw [li] at hc1
  rw [lm] at hc2
  have Hv : Hid (crErr t i j m n = 0 → crV t i j m n = fracV (upX (rg t i j) (rg t m n) (rg t i n) (rg t m j)) (dnX (rg t i j) (rg t m n) (rg t i n) (rg t m j))) := Lib.hid (fun h => by unfold crV crR fracV; rw [if_pos h, if_pos h]; simp only [Int.toNat_natCast])
  have he6 : ((rg t i n).num = 0 ∨ (rg t m j).num = 0) → crErr t i j m n = 6 := fun h => by rw [he, if_pos h]
  have he0 : ¬ ((rg t i n).num = 0 ∨ (rg t m j).num = 0) → crErr t i j m n = 0 := fun h => by rw [he, if_neg h]
  clear he
  have hi' : i < len := by omega
  have hm' : m < len := by omega
  clear h1 h2 hr0 hI0 hrows hI1 hI2 vi vm ea eb ec ed p1 p2 p3 p4 li lm
  generalize rg t i j = ra at *
  generalize rg t m n = rb at *
  generalize rg t i n = rc at *
  generalize rg t m j = rd at *
  generalize (rrow t 0).length = M at *
  obtain ⟨na, da⟩ := ra
  obtain ⟨nb, db⟩ := rb
  obtain ⟨nc, dc⟩ := rc
  obtain ⟨nd, dd⟩ := rd
  simp only [upX, dnX] at Hv
  simp only at xa ya xb yb xc yc xd yd ba bb bc bd he6 he0
  go_enter Try.func30, Try.ntmps30
  go_wp2_with fail
  generalize w.alloc (.cells #[.int .i64 0, .int .i64 0] 46) = w0 at *
  refine (C1.out _ hE0).mono ?_
  rintro e w1 ⟨rfl, hX1⟩
  have hE1 := hE0.trans' hX1
  have hc0' := (hE1.cell' hb0).trans hc0
  go_wp2_with fail
  refine (C2.out _).mono ?_
  rintro e w2 ⟨rfl, hX2⟩
  have hE2 := hE1.trans' hX2
  have hX2 := hX1.trans' hX2
  have k1 := (hE2.cell' hb1).trans hc1
  have k2 := (hE2.cell' hb2).trans hc2
  have xa' := (hE2.cell' hb3).trans xa
  have ya' := (hE2.cell' hb3).trans ya
  have xb' := (hE2.cell' hb4).trans xb
  have yb' := (hE2.cell' hb4).trans yb
  have xc' := (hE2.cell' hb3).trans xc
  have yc' := (hE2.cell' hb3).trans yc
  have xd' := (hE2.cell' hb4).trans xd
  have yd' := (hE2.cell' hb4).trans yd
  have z1 : b0 < w2.heap.size := Nat.lt_of_lt_of_le hb0 hE2.size
  have z3 : b3 < w2.heap.size := Nat.lt_of_lt_of_le hb3 hE2.size
  have z4 : b4 < w2.heap.size := Nat.lt_of_lt_of_le hb4 hE2.size
  have z11 : b0 < w2.heap.size + 1 := by omega
  have z12 : b0 < w2.heap.size + 1 + 1 := by omega
  have z13 : b0 < w2.heap.size + 1 + 1 + 1 := by omega
  have z31 : b3 < w2.heap.size + 1 := by omega
  have z32 : b3 < w2.heap.size + 1 + 1 := by omega
  have z33 : b3 < w2.heap.size + 1 + 1 + 1 := by omega
  have z41 : b4 < w2.heap.size + 1 := by omega
  have z42 : b4 < w2.heap.size + 1 + 1 := by omega
  have z43 : b4 < w2.heap.size + 1 + 1 + 1 := by omega
  clear hc0 hc0' hc1 hc2 xa ya xb yb xc yc xd yd
  go_wp2_with fail
  have BA := Lib.hid ba
  have BB := Lib.hid bb
  have BC := Lib.hid bc
  have BD := Lib.hid bd
  have HE6 := Lib.hid he6
  have HE0 := Lib.hid he0
  have HE2 := Lib.hid hE2
  have HX2 := Lib.hid hX2
  have Z := Lib.hid hE2.size
  clear ba bb bc bd he6 he0 hE2 hX2 hX1 hE1 hE0 hlt hn1 hn5 hm1 hm5 hb0 hb1 hb2 hb3 hb4 hlen hin hl
  refine wp_region_fill (A := ?A6) 97 [true, true, true, true, true, true, true, true, true, true, true, true, true, true, true, true, true, true, true, true, true, true, true, true, true, true, true, true, false, false, false, false, false, false, false, false] [⟨28, 13, #[.int .i64 0, .int .i64 0], 46, 32, #[.int .i64 na, .int .i64 da]⟩, ⟨29, 14, #[.int .i64 0, .int .i64 0], 46, 33, #[.int .i64 nb, .int .i64 db]⟩, ⟨30, 15, #[.int .i64 0, .int .i64 0], 46, 34, #[.int .i64 nc, .int .i64 dc]⟩, ⟨31, 16, #[.int .i64 0, .int .i64 0], 46, 35, #[.int .i64 nd, .int .i64 dd]⟩] (by kernel_rfl) (by kernel_rfl) rfl ?hmk ?hwalk ?hfl ?htail
  case hmk =>
    intro q hq op hop ρ W
    simp only [List.mem_cons, List.not_mem_nil, or_false] at hq
    rcases hq with rfl | rfl | rfl | rfl
    · obtain rfl := Option.some.inj hop; exact run_alloc46 ρ W _ _ _ _
    · obtain rfl := Option.some.inj hop; exact run_alloc46 ρ W _ _ _ _
    · obtain rfl := Option.some.inj hop; exact run_alloc46 ρ W _ _ _ _
    · obtain rfl := Option.some.inj hop; exact run_alloc46 ρ W _ _ _ _
  case hwalk =>
    intro W1 hW1
    have k1 := (hW1.cell' z1).trans k1
    have k2 := (hW1.cell' z1).trans k2
    have xa' := (hW1.cell' z3).trans xa'
    have ya' := (hW1.cell' z3).trans ya'
    have xb' := (hW1.cell' z4).trans xb'
    have yb' := (hW1.cell' z4).trans yb'
    have xc' := (hW1.cell' z3).trans xc'
    have yc' := (hW1.cell' z3).trans yc'
    have xd' := (hW1.cell' z4).trans xd'
    have yd' := (hW1.cell' z4).trans yd'
    have z1 := Nat.lt_of_lt_of_le z1 hW1.size
    have z3 := Nat.lt_of_lt_of_le z3 hW1.size
    have z4 := Nat.lt_of_lt_of_le z4 hW1.size
    simp only [pickQ]
    repeat (go_big_quiet_step (fail))
    refine wpQuiet_nil ?_
    rfl
  case hfl =>
    intro q hq op hop a W B h1 h2 h3
    simp only [List.mem_cons, List.not_mem_nil, or_false] at hq
    rcases hq with rfl | rfl | rfl | rfl
    · obtain rfl := Option.some.inj hop
      exact fill_store46 h1 ((h2 43 (by simp [Oper.looksAt, Op.operands]) (show (43 : Nat) ≠ 13 by decide)).trans rfl) h3
    · obtain rfl := Option.some.inj hop
      exact fill_store46 h1 ((h2 50 (by simp [Oper.looksAt, Op.operands]) (show (50 : Nat) ≠ 14 by decide)).trans rfl) h3
    · obtain rfl := Option.some.inj hop
      exact fill_store46 h1 ((h2 57 (by simp [Oper.looksAt, Op.operands]) (show (57 : Nat) ≠ 15 by decide)).trans rfl) h3
    · obtain rfl := Option.some.inj hop
      exact fill_store46 h1 ((h2 64 (by simp [Oper.looksAt, Op.operands]) (show (64 : Nat) ≠ 16 by decide)).trans rfl) h3
  case htail =>
    intro bs W10 hE10 hheld hinj
    clear k1 k2 xa' ya' xb' yb' xc' yc' xd' yd'
    have P13 : Pair W10 (bs 28) 46 (.int .i64 na) (.int .i64 da) := (hheld _ (.head _)).2
    have P14 : Pair W10 (bs 29) 46 (.int .i64 nb) (.int .i64 db) := (hheld _ (.tail _ (.head _))).2
    have P15 : Pair W10 (bs 30) 46 (.int .i64 nc) (.int .i64 dc) := (hheld _ (.tail _ (.tail _ (.head _)))).2
    have P16 : Pair W10 (bs 31) 46 (.int .i64 nd) (.int .i64 dd) := (hheld _ (.tail _ (.tail _ (.tail _ (.head _))))).2
    clear hheld hinj
    simp only [putAll, ptrV]
    generalize bs 28 = B13 at *
    generalize bs 29 = B14 at *
    generalize bs 30 = B15 at *
    generalize bs 31 = B16 at *
    simp only [Act.put, List.setIfInBounds_toArray, List.set_cons_zero, List.set_cons_succ]
    clear z1 z3 z4
    have hE11 := HE2.out.trans' hE10
    have hX11 := HX2.out.trans' hE10
    have p0 := P13.cell0
    have p1 := P13.cell1
    have p2 := P14.cell0
    have p3 := P14.cell1
    have p4 := P15.cell0
    have p5 := P15.cell1
    have p6 := P16.cell0
    have p7 := P16.cell1
    have g0 := (HB.out.ext hX11).cellv 0 (v := .int .i64 0) rfl
    have g1 := (HB.out.ext hX11).cellv 1 (v := .int .i64 0) rfl
    have gf := (HB.out.ext hX11).frozen
    by_cases hz : nc = 0 ∨ nd = 0
    · have he := HE6.out hz
      have Hf : Hid (∀ W, Ext w W → RetRat t i j m n w (.returned (.tuple #[.agg #[.int .i64 0, .int .i64 0], .int .i64 6])) W) := Lib.hid (fun W h => ⟨by rw [crV_bad (by omega), he], h⟩)
      have h6 : ((nc == 0) || (nd == 0)) = true := by simpa using hz
      by_cases hc : nc = 0
      · have dc0 : (nc == 0) = true := by simp [hc]
        clear he hz h6 hc
        go_wp2_with fail
        refine bodyPost_ret (v := .tuple #[.agg #[.int .i64 0, .int .i64 0], .int .i64 6]) (by simp [results, Try.results30, go_sem, g0, g1]) rfl (Hf.out _ ?_)
        exact ext_set2 hE11 (Nat.le_refl _) _ _
      · have dc0 : (nc == 0) = false := by simp [hc]
        have dd0 : (nd == 0) = true := by
          rcases hz with h | h
          · exact absurd h hc
          · simp [h]
        clear he hz h6 hc
        go_wp2_with fail
        refine bodyPost_ret (v := .tuple #[.agg #[.int .i64 0, .int .i64 0], .int .i64 6]) (by simp [results, Try.results30, go_sem, g0, g1]) rfl (Hf.out _ ?_)
        exact ext_set2 hE11 (Nat.le_refl _) _ _
    · have he := HE0.out hz
      have Hv2 := Lib.hid (Hv.out he)
      have HE := Lib.hid he
      have hnc : nc ≠ 0 := fun e => hz (.inl e)
      have hnd : nd ≠ 0 := fun e => hz (.inr e)
      have dc0 : (nc == 0) = false := by simp [hnc]
      have dd0 : (nd == 0) = false := by simp [hnd]
      have ba := BA.out
      have bb := BB.out
      have bc := BC.out
      have bd := BD.out
      have u1 := mulR ba.1 bb.1
      have u2 := mulR u1 (y := dc) (Y := 30000) ⟨by omega, bc.2.2⟩
      have u3 := mulR u2 (y := dd) (Y := 30000) ⟨by omega, bd.2.2⟩
      have v1 := mulR (x := da) (X := 30000) ⟨by omega, ba.2.2⟩ (y := db) (Y := 30000) ⟨by omega, bb.2.2⟩
      have v2 := mulR v1 bc.1
      have v3 := mulR v2 bd.1
      have v4 := mul1 (mul1 (mul1 ba.2.1 bb.2.1) (show 1 ≤ nc by omega)) (show 1 ≤ nd by omega)
      have C3 := Lib.hid (fun W => f76_c (na * nb * dc * dd) (da * db * nc * nd) W ⟨u3.1, by omega⟩ ⟨v4, by omega⟩)
      have Hf : Hid (∀ W, Ext w W → RetRat t i j m n w (.returned (.tuple #[fracV (na * nb * dc * dd) (da * db * nc * nd), .int .i64 0])) W) := Lib.hid (fun W h => ⟨by rw [Hv2.out, he], h⟩)
      unfold fracV at C3 Hf
      clear he HE6 HE0 Hv Hv2 hz HE BA BB BC BD
      generalize ratN (na * nb * dc * dd) (da * db * nc * nd) = fn at *
      generalize ratD (na * nb * dc * dd) (da * db * nc * nd) = fd at *
      go_wp2_with fail
      refine (C3.out _).mono ?_
      rintro e w5 ⟨rfl, hX5⟩
      have hE5 := hE11.trans' hX5
      have hX5 := hX11.trans' hX5
      have g0 := (HB.out.ext hX5).cellv 0 (v := .int .i64 0) rfl
      have g1 := (HB.out.ext hX5).cellv 1 (v := .int .i64 0) rfl
      have gf := (HB.out.ext hX5).frozen
      go_wp2_with fail
      refine bodyPost_ret (v := .tuple #[.agg #[.int .i64 fn, .int .i64 fd], .int .i64 0]) (by simp [results, Try.results30, go_sem, g0, g1]) rfl (Hf.out _ ?_)
      exact ext_set2 hE5 (Nat.le_refl _) _ _

end Go.Proofs.Ytaidoaggmllcfaa
