/- Contracts of roads: Exists, Cheapest, Least, whole. -/
import Derived.Test.YtbejgbflipoboaaT13
import Derived.Test.YtbejgbflipoboaaP3
namespace Go.Proofs.Ytbejgbflipoboaa
open Go.RowKit
attribute [local go_sem] GW.cell
def RetCheap (L : List Int) (b : Bool) (err : Int) (w : World) (e : Ending) (w' : World) : Prop := ∃ a c, e = .returned (.tuple #[.slice a L.length c, .bool b, .int .i64 err]) ∧ Ints w' a L ∧ Ext w w'
theorem ints_nil (w : World) (a : Option Addr) : Ints w a [] := fun j hj => by simp at hj
theorem ints_some {w : World} {a : Option Addr} {l : List Int} (h : Ints w a l) (hl : 1 ≤ l.length) : ∃ b o, a = some ⟨b, o, none⟩ := by
  obtain ⟨b, o, e, _⟩ := h 0 (by omega)
  exact ⟨b, o, e⟩
theorem exc_bd {N : Int} {R : List Road} {x : List Int} (h : excErr N R x = 0) (i : Nat) : -1000 ≤ gi x i ∧ gi x i ≤ 1000 := by
  obtain ⟨_, _, h3, _⟩ := excErr_ok h
  by_cases hi : i < x.length
  · have := h3 i hi; omega
  · rw [gi_out (by omega)]; omega
theorem cheapF_len {N : Int} {R : List Road} {x : List Int} : (cheapF N R x).length ≤ 12 := by
  by_cases h : okF N R x = true
  · obtain ⟨M, _, _, h3, _, h5, _, _, _, h9⟩ := okF_flow h
    rw [h9, h5.lf]; exact h3.r12
  · unfold cheapF; rw [if_neg h]; simp
/-- what solve hands back, for a right excess -/
theorem solve_c (N : Int) (a : Option Addr) (n c : Nat) (R : List Road) (a2 : Option Addr) (n2 c2 : Nat) (x : List Int) (w : World) (hl : Roads w a R) (hn : R.length = n) (hx : Ints w a2 x) (hxl : x.length = n2) (h0 : excErr N R x = 0) :
    Calls Try.prog 68 #[.agg #[.int .i64 N, .slice a n c], .slice a2 n2 c2] w fun e w' => ∃ gf, e = .returned (.tuple #[.slice (some ⟨gf, 0, none⟩) n n, .bool (okF N R x)]) ∧ OwnG w' 3 w.heap.size gf n n (shipV N.toNat R x).1 ∧ Ext w w' := by
  subst hn hxl
  obtain ⟨M, rfl, h2, h3, h4, h5⟩ := exc_nat h0
  obtain ⟨b, o, rfl⟩ := ints_some hx (by omega)
  have hs := ship_ok h0
  rw [h2]
  have := f68_c M 1000 a R.length c R b o c2 x (shipV M R x).1 (shipV M R x).2 w hl rfl h3 hx h2 hs.run (Nat.le_refl _) (exc_bd h0)
  rw [show okF (M : Int) R x = !((shipV M R x).2.any (fun n => n != 0)) by unfold okF okB; simp [h0]]
  exact this
set_option maxHeartbeats 4000000 in
theorem f28_c (N : Int) (a : Option Addr) (n c : Nat) (R : List Road) (a2 : Option Addr) (n2 c2 : Nat) (x : List Int) (w : World) (hl : Roads w a R) (hn : R.length = n) (hlen : n ≤ 140737488355328) (hx : Ints w a2 x) (hxl : x.length = n2) (hlen2 : n2 ≤ 1000000) :
    Calls Try.prog 28 #[.agg #[.int .i64 N, .slice a n c], .slice a2 n2 c2] w (RetCheap (cheapF N R x) (okF N R x) (excErr N R x) w) := by
  subst hn hxl
  have C24 := Lib.hid (fun W (hW : Ext w W) => f24_c N a R.length c R a2 x.length c2 x W (hl.ext hW) rfl hlen (hx.ext hW) rfl hlen2)
  have C68 := Lib.hid (fun W (hW : Ext w W) (h0 : excErr N R x = 0) => solve_c N a R.length c R a2 x.length c2 x W (hl.ext hW) rfl (hx.ext hW) rfl h0)
  have hE0 := ext_alloc w (.cells #[.int .i64 N, .slice a R.length c] 24)
  have HB := Lib.hid (BlkC.new w #[.int .i64 N, .slice a R.length c] 24)
  have hz := HB.out.lt
  have g0 := HB.out.cellv 0 (v := .int .i64 N) rfl
  have g1 := HB.out.cellv 1 (v := .slice a R.length c) rfl
  go_enter Try.func28, Try.ntmps28
  go_wp2_with fail
  generalize (w.alloc (.cells #[.int .i64 N, .slice a R.length c] 24)) = w0 at *
  refine (C24.out _ hE0).mono ?_
  rintro e w1 ⟨rfl, hX1⟩
  have hE1 := hE0.trans' hX1
  by_cases h0 : excErr N R x = 0
  case neg =>
    have hb : (excErr N R x != 0) = true := by simp [h0]
    have HC : Hid (cheapF N R x = [] ∧ okF N R x = false) := Lib.hid (by unfold cheapF okF; simp [h0])
    clear h0 C24 C68
    generalize hEE : excErr N R x = E at *
    have HEE := Lib.hid hEE
    clear hEE
    go_wp2_with fail
    go_ret3
    rw [HC.out.1, HC.out.2]
    exact ⟨none, 0, rfl, ints_nil _ _, hE1⟩
  have C68 := Lib.hid (C68.out _ hE1 h0)
  clear g0 g1
  have g0 := (HB.out.ext hX1).cellv 0 (v := .int .i64 N) rfl
  have g1 := (HB.out.ext hX1).cellv 1 (v := .slice a R.length c) rfl
  have hzr := (HB.out.ext hX1).lt
  rw [h0]
  go_wp2_with fail
  refine C68.out.mono ?_
  rintro e w2 ⟨gf, rfl, hF1, hX2⟩
  have HF1 := Lib.hid hF1
  have hE2 := hE1.trans' hX2
  have HEE := Lib.hid h0
  clear hF1 C24 C68 h0
  rcases Bool.eq_false_or_eq_true (okF N R x) with hb | hb
  · have HC : Hid (cheapF N R x = (shipV N.toNat R x).1) := Lib.hid (by unfold cheapF; rw [if_pos hb])
    have HOB := Lib.hid hb
    rw [hb]
    go_wp2_with fail
    go_ret3
    rw [HC.out, HEE.out, HOB.out]
    refine ⟨some ⟨gf, 0, none⟩, R.length, ?_, HF1.out.ints, hE2⟩
    rw [HF1.out.len]
    rfl
  · have HC : Hid (cheapF N R x = []) := Lib.hid (by unfold cheapF; rw [hb]; rfl)
    have HOB := Lib.hid hb
    rw [hb]
    go_wp2_with fail
    go_ret3
    rw [HC.out, HEE.out, HOB.out]
    exact ⟨none, 0, rfl, ints_nil _ _, hE2⟩
set_option maxHeartbeats 4000000 in
theorem f29_c (N : Int) (a : Option Addr) (n c : Nat) (R : List Road) (a2 : Option Addr) (n2 c2 : Nat) (x : List Int) (w : World) (hl : Roads w a R) (hn : R.length = n) (hlen : n ≤ 140737488355328) (hx : Ints w a2 x) (hxl : x.length = n2) (hlen2 : n2 ≤ 1000000) :
    Calls Try.prog 29 #[.agg #[.int .i64 N, .slice a n c], .slice a2 n2 c2] w fun e w' => e = .returned (.tuple #[.bool (okF N R x), .int .i64 (excErr N R x)]) ∧ Ext w w' := by
  subst hn hxl
  have C24 := Lib.hid (fun W (hW : Ext w W) => f24_c N a R.length c R a2 x.length c2 x W (hl.ext hW) rfl hlen (hx.ext hW) rfl hlen2)
  have C68 := Lib.hid (fun W (hW : Ext w W) (h0 : excErr N R x = 0) => solve_c N a R.length c R a2 x.length c2 x W (hl.ext hW) rfl (hx.ext hW) rfl h0)
  have hE0 := ext_alloc w (.cells #[.int .i64 N, .slice a R.length c] 24)
  have HB := Lib.hid (BlkC.new w #[.int .i64 N, .slice a R.length c] 24)
  have hz := HB.out.lt
  have g0 := HB.out.cellv 0 (v := .int .i64 N) rfl
  have g1 := HB.out.cellv 1 (v := .slice a R.length c) rfl
  go_enter Try.func29, Try.ntmps29
  go_wp2_with fail
  generalize (w.alloc (.cells #[.int .i64 N, .slice a R.length c] 24)) = w0 at *
  refine (C24.out _ hE0).mono ?_
  rintro e w1 ⟨rfl, hX1⟩
  have hE1 := hE0.trans' hX1
  by_cases h0 : excErr N R x = 0
  case neg =>
    have hb : (excErr N R x != 0) = true := by simp [h0]
    have HC : Hid (okF N R x = false) := Lib.hid (by unfold okF; simp [h0])
    clear h0 C24 C68
    generalize hEE : excErr N R x = E at *
    have HEE := Lib.hid hEE
    clear hEE
    go_wp2_with fail
    go_ret2
    rw [HC.out, HEE.out]
    exact ⟨rfl, hE1⟩
  have C68 := Lib.hid (C68.out _ hE1 h0)
  clear g0 g1
  have g0 := (HB.out.ext hX1).cellv 0 (v := .int .i64 N) rfl
  have g1 := (HB.out.ext hX1).cellv 1 (v := .slice a R.length c) rfl
  have hzr := (HB.out.ext hX1).lt
  rw [h0]
  go_wp2_with fail
  refine C68.out.mono ?_
  rintro e w2 ⟨gf, rfl, hF1, hX2⟩
  have hE2 := hE1.trans' hX2
  have HEE := Lib.hid h0
  clear hF1 C24 C68 h0
  generalize hOB : okF N R x = b at *
  have HOB := Lib.hid hOB
  clear hOB
  go_wp2_with fail
  go_ret2
  rw [HEE.out, HOB.out]
  exact ⟨rfl, hE2⟩
set_option maxHeartbeats 4000000 in
theorem f26_c (N : Int) (a : Option Addr) (n c : Nat) (R : List Road) (a2 : Option Addr) (n2 c2 : Nat) (x : List Int) (w : World) (hl : Roads w a R) (hn : R.length = n) (hlen : n ≤ 140737488355328) (hx : Ints w a2 x) (hxl : x.length = n2) (hlen2 : n2 ≤ 1000000) :
    Calls Try.prog 26 #[.agg #[.int .i64 N, .slice a n c], .slice a2 n2 c2] w fun e w' => e = .returned (.tuple #[.int .i64 (lstF N R x), .bool (okF N R x), .int .i64 (excErr N R x)]) ∧ Ext w w' := by
  subst hn hxl
  have C28 := Lib.hid (fun W (hW : Ext w W) => f28_c N a R.length c R a2 x.length c2 x W (hl.ext hW) rfl hlen (hx.ext hW) rfl hlen2)
  have hE0 := ext_alloc w (.cells #[.int .i64 N, .slice a R.length c] 24)
  have HB := Lib.hid (BlkC.new w #[.int .i64 N, .slice a R.length c] 24)
  have hz := HB.out.lt
  have g0 := HB.out.cellv 0 (v := .int .i64 N) rfl
  have g1 := HB.out.cellv 1 (v := .slice a R.length c) rfl
  go_enter Try.func26, Try.ntmps26
  go_wp2_with fail
  generalize (w.alloc (.cells #[.int .i64 N, .slice a R.length c] 24)) = w0 at *
  refine (C28.out _ hE0).mono ?_
  rintro e w1 ⟨a3, c3, rfl, hI1, hX1⟩
  clear g0 g1 C28
  have g0 := (HB.out.ext hX1).cellv 0 (v := .int .i64 N) rfl
  have g1 := (HB.out.ext hX1).cellv 1 (v := .slice a R.length c) rfl
  have hzr := (HB.out.ext hX1).lt
  have hE1 := hE0.trans' hX1
  have HI1 := Lib.hid hI1
  clear hI1
  rcases Bool.eq_false_or_eq_true (okF N R x) with hb | hb
  · obtain ⟨M, e1, e2, e3, e4, e5, e6, e7, e8, e9⟩ := okF_flow hb
    subst e1
    have HE : Hid (excErr (M : Int) R x = 0) := Lib.hid e4
    have HL : Hid (lstF (M : Int) R x = costTo R (cheapF (M : Int) R x) R.length) := Lib.hid e8
    have HF : Hid (FlowR M R x (cheapF (M : Int) R x)) := Lib.hid e7
    have h12 := e3.r12
    clear e4 e8 e7 e9 e5 e6 e2
    have HOB := Lib.hid hb
    have HLl : Hid ((cheapF (M : Int) R x).length = R.length ∧ (cheapF (M : Int) R x).length ≤ 1000000) := Lib.hid ⟨HF.out.1, by have := HF.out.1; omega⟩
    rw [hb]
    generalize cheapF (M : Int) R x = L at *
    go_wp2_with fail
    refine (f60_c (M : Int) a R.length c R a3 L.length c3 L w1 (hl.ext hE1) rfl (by omega) HI1.out rfl HLl.out.2 e3 ((fs_flowB HF.out.1).2 HF.out.2.1)).mono ?_
    rintro e w2 ⟨rfl, hX2⟩
    go_wp2_with fail
    go_ret3
    rw [HL.out, HE.out, HOB.out]
    exact ⟨rfl, hE1.trans' hX2⟩
  · have HL : Hid (lstF N R x = 0) := Lib.hid (by unfold lstF; rw [hb]; rfl)
    have HOB := Lib.hid hb
    rw [hb]
    generalize hEE : excErr N R x = E at *
    have HEE := Lib.hid hEE
    clear hEE
    go_wp2_with fail
    go_ret3
    rw [HL.out, HEE.out, HOB.out]
    exact ⟨rfl, hE1⟩
end Go.Proofs.Ytbejgbflipoboaa
