/- Contracts of roads: solve, Cheapest, Least where ship ends; known. -/
import Derived.Test.YtbejgbflipoboaaT10
namespace Go.Proofs.Ytbejgbflipoboaa
open Go.RowKit
attribute [local go_sem] GW.cell
set_option maxHeartbeats 4000000 in
theorem f68_c (M F : Nat) (a : Option Addr) (n c : Nat) (R : List Road) (b2 o2 c2 : Nat) (x fl lf : List Int) (w : World) (hl : Roads w a R) (hn : R.length = n) (hok : NetOk (M : Int) R) (hx : Ints w (some ⟨b2, o2, none⟩) x) (hxl : x.length = M) (hs : shipF M R F (List.replicate R.length 0) x = some (fl, lf)) (hF : F ≤ 1000) (hxb : ∀ i, -1000 ≤ gi x i ∧ gi x i ≤ 1000) :
    Calls Try.prog 68 #[.agg #[.int .i64 (M : Int), .slice a n c], .slice (some ⟨b2, o2, none⟩) M c2] w fun e w' => ∃ gf, e = .returned (.tuple #[.slice (some ⟨gf, 0, none⟩) n n, .bool (!(lf.any (fun n => n != 0)))]) ∧ OwnG w' 3 w.heap.size gf n n fl ∧ Ext w w' := by
  subst hn
  have hM := hok.n1
  have C75 := Lib.hid (fun W (hW : Ext w W) => f75_c M F a R.length c R b2 o2 c2 x fl lf W (hl.ext hW) rfl hok (hx.ext hW) hxl hs hF hxb)
  clear hs hxl
  have hE0 := ext_alloc w (.cells #[.int .i64 (M : Int), .slice a R.length c] 24)
  have HB := Lib.hid (BlkC.new w #[.int .i64 (M : Int), .slice a R.length c] 24)
  have hz := HB.out.lt
  have g0 := HB.out.cellv 0 (v := .int .i64 (M : Int)) rfl
  have g1 := HB.out.cellv 1 (v := .slice a R.length c) rfl
  go_enter Try.func68, Try.ntmps68
  go_wp2_with fail
  generalize (w.alloc (.cells #[.int .i64 (M : Int), .slice a R.length c] 24)) = w0 at *
  refine (C75.out _ hE0).mono ?_
  rintro e w1 ⟨gf, gl, cl, rfl, hF1, hL1, hne, hX1⟩
  have C85 := f85_86 (some ⟨gl, 0, none⟩) cl lf w1 hL1.ints (by have := hL1.len; omega)
  rw [hL1.len] at C85
  have C85 := Lib.hid C85
  have HF1 := Lib.hid (hF1.base hE0.size)
  have hE1 := hE0.trans' hX1
  clear hF1 hL1
  generalize hbb : lf.any (fun n => n != 0) = bb at *
  have HR2 : Hid (Ending.returned (.tuple #[.slice (some ⟨gf, 0, none⟩) R.length R.length, .bool (!bb)]) = .returned (.tuple #[.slice (some ⟨gf, 0, none⟩) R.length R.length, .bool (!(lf.any (fun n => n != 0)))])) := Lib.hid (by rw [hbb])
  clear hbb
  go_wp2_with fail
  refine C85.out.mono ?_
  rintro e w2 ⟨rfl, rfl⟩
  go_wp2_with fail
  go_ret2
  exact ⟨gf, HR2.out, HF1.out, hE1⟩
set_option maxHeartbeats 4000000 in
theorem f28_yes (M F : Nat) (a : Option Addr) (n c : Nat) (R : List Road) (b2 o2 c2 : Nat) (x fl lf : List Int) (w : World) (hl : Roads w a R) (hn : R.length = n) (hok : NetOk (M : Int) R) (hx : Ints w (some ⟨b2, o2, none⟩) x) (hxl : x.length = M) (hs : shipF M R F (List.replicate R.length 0) x = some (fl, lf)) (hF : F ≤ 1000) (hxb : ∀ i, -1000 ≤ gi x i ∧ gi x i ≤ 1000) (h0 : excErr (M : Int) R x = 0) (hz0 : lf.any (fun n => n != 0) = false) :
    Calls Try.prog 28 #[.agg #[.int .i64 (M : Int), .slice a n c], .slice (some ⟨b2, o2, none⟩) M c2] w fun e w' => ∃ gf, e = .returned (.tuple #[.slice (some ⟨gf, 0, none⟩) n n, .bool true, .int .i64 0]) ∧ OwnG w' 3 w.heap.size gf n n fl ∧ Ext w w' := by
  subst hn
  have hM := hok.n1
  have h12 := hok.r12
  have C68 := Lib.hid (fun W (hW : Ext w W) => f68_c M F a R.length c R b2 o2 c2 x fl lf W (hl.ext hW) rfl hok (hx.ext hW) hxl hs hF hxb)
  have C24 := Lib.hid (fun W (hW : Ext w W) => f24_c (M : Int) a R.length c R (some ⟨b2, o2, none⟩) M c2 x W (hl.ext hW) rfl (by omega) (hx.ext hW) hxl (by omega))
  rw [h0] at C24
  rw [hz0] at C68
  clear hs hxl h0 hz0
  have hE0 := ext_alloc w (.cells #[.int .i64 (M : Int), .slice a R.length c] 24)
  have HB := Lib.hid (BlkC.new w #[.int .i64 (M : Int), .slice a R.length c] 24)
  have hz := HB.out.lt
  have g0 := HB.out.cellv 0 (v := .int .i64 (M : Int)) rfl
  have g1 := HB.out.cellv 1 (v := .slice a R.length c) rfl
  go_enter Try.func28, Try.ntmps28
  go_wp2_with fail
  generalize (w.alloc (.cells #[.int .i64 (M : Int), .slice a R.length c] 24)) = w0 at *
  refine (C24.out _ hE0).mono ?_
  rintro e w1 ⟨rfl, hX1⟩
  clear g0 g1
  have g0 := (HB.out.ext hX1).cellv 0 (v := .int .i64 (M : Int)) rfl
  have g1 := (HB.out.ext hX1).cellv 1 (v := .slice a R.length c) rfl
  have hzr := (HB.out.ext hX1).lt
  have hE1 := hE0.trans' hX1
  go_wp2_with fail
  refine (C68.out _ hE1).mono ?_
  rintro e w2 ⟨gf, rfl, hF1, hX2⟩
  have HF1 := Lib.hid (hF1.base hE1.size)
  clear hF1
  go_wp2_with fail
  go_ret3
  exact ⟨gf, rfl, HF1.out, hE1.trans' hX2⟩
set_option maxHeartbeats 4000000 in
theorem f26_yes (M F : Nat) (a : Option Addr) (n c : Nat) (R : List Road) (b2 o2 c2 : Nat) (x fl lf : List Int) (w : World) (hl : Roads w a R) (hn : R.length = n) (hok : NetOk (M : Int) R) (hx : Ints w (some ⟨b2, o2, none⟩) x) (hxl : x.length = M) (hs : shipF M R F (List.replicate R.length 0) x = some (fl, lf)) (hF : F ≤ 1000) (hxb : ∀ i, -1000 ≤ gi x i ∧ gi x i ≤ 1000) (h0 : excErr (M : Int) R x = 0) (hz0 : lf.any (fun n => n != 0) = false) (hfb : flowB R fl = true) :
    Calls Try.prog 26 #[.agg #[.int .i64 (M : Int), .slice a n c], .slice (some ⟨b2, o2, none⟩) M c2] w fun e w' => e = .returned (.tuple #[.int .i64 (costTo R fl R.length), .bool true, .int .i64 0]) ∧ Ext w w' := by
  subst hn
  have hM := hok.n1
  have h12 := hok.r12
  have C28 := Lib.hid (fun W (hW : Ext w W) => f28_yes M F a R.length c R b2 o2 c2 x fl lf W (hl.ext hW) rfl hok (hx.ext hW) hxl hs hF hxb h0 hz0)
  clear hs hxl h0 hz0
  have hE0 := ext_alloc w (.cells #[.int .i64 (M : Int), .slice a R.length c] 24)
  have HB := Lib.hid (BlkC.new w #[.int .i64 (M : Int), .slice a R.length c] 24)
  have hz := HB.out.lt
  have g0 := HB.out.cellv 0 (v := .int .i64 (M : Int)) rfl
  have g1 := HB.out.cellv 1 (v := .slice a R.length c) rfl
  go_enter Try.func26, Try.ntmps26
  go_wp2_with fail
  generalize (w.alloc (.cells #[.int .i64 (M : Int), .slice a R.length c] 24)) = w0 at *
  refine (C28.out _ hE0).mono ?_
  rintro e w1 ⟨gf, rfl, hF1, hX1⟩
  clear g0 g1
  have g0 := (HB.out.ext hX1).cellv 0 (v := .int .i64 (M : Int)) rfl
  have g1 := (HB.out.ext hX1).cellv 1 (v := .slice a R.length c) rfl
  have hzr := (HB.out.ext hX1).lt
  have hE1 := hE0.trans' hX1
  have HF1 := Lib.hid hF1
  clear hF1
  go_wp2_with fail
  refine (f60_c (M : Int) a R.length c R (some ⟨gf, 0, none⟩) R.length R.length fl w1 (hl.ext hE1) rfl (by omega) HF1.out.ints HF1.out.len (by omega) hok hfb).mono ?_
  rintro e w2 ⟨rfl, hX2⟩
  go_wp2_with fail
  go_ret3
  exact ⟨rfl, hE1.trans' hX2⟩
end Go.Proofs.Ytbejgbflipoboaa
