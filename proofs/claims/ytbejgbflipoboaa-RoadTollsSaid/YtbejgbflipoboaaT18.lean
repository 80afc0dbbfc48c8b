/- Contracts of roads: Reverse of the reference. -/
import Derived.Test.YtbejgbflipoboaaT17
namespace Go.Proofs.Ytbejgbflipoboaa
open Go.RowKit
attribute [local go_sem] GW.cell
set_option maxRecDepth 20000 in
set_option maxHeartbeats 8000000 in
theorem f36_c (N : Int) (a : Option Addr) (n c : Nat) (R : List Road) (w : World) (hl : Roads w a R) (hn : R.length = n) (hlen : n ≤ 1000000) :
    Calls Try.prog 36 #[.agg #[.int .i64 N, .slice a n c]] w (RetNet (revN N R) (revL N R) (netErr N R) w) := by
  subst hn
  have C22 := Lib.hid (fun W (hW : Ext w W) => f23_c N a R.length c R W (hl.ext hW) rfl (by omega))
  have C51 := Lib.hid (fun W (hW : Ext w W) => f51_c N a R.length c R W (hl.ext hW) rfl hlen)
  have hE0 := ext_alloc w (.cells #[.int .i64 N, .slice a R.length c] 24)
  have HB := Lib.hid (BlkC.new w #[.int .i64 N, .slice a R.length c] 24)
  have hz := HB.out.lt
  go_enter Try.func36, Try.ntmps36
  go_wp2_with fail
  have hEz : Ext w ((w.alloc (.cells #[.int .i64 N, .slice a R.length c] 24)).alloc (.cells #[.int .i64 0, .slice none 0 0] 24)) := hE0.trans' (ext_alloc _ _)
  have HZ := Lib.hid (BlkC.new (w.alloc (.cells #[.int .i64 N, .slice a R.length c] 24)) #[.int .i64 0, .slice none 0 0] 24)
  have HB0 := Lib.hid (HB.out.alloc (.cells #[.int .i64 0, .slice none 0 0] 24))
  have hzz : (w.alloc (.cells #[.int .i64 N, .slice a R.length c] 24)).heap.size = w.heap.size + 1 := by simp
  rw [hzz] at HZ
  clear hzz HB hz
  have hz := HZ.out.lt
  generalize (w.alloc (.cells #[.int .i64 N, .slice a R.length c] 24)).alloc (.cells #[.int .i64 0, .slice none 0 0] 24) = w0 at *
  refine (C22.out _ hEz).mono ?_
  rintro e w1 ⟨rfl, hX1⟩
  have hE1 := hEz.trans' hX1
  have HB1 := Lib.hid (HB0.out.ext hX1)
  have HZ1 := Lib.hid (HZ.out.ext hX1)
  have g0 := HB1.out.cellv 0 (v := .int .i64 N) rfl
  have g1 := HB1.out.cellv 1 (v := .slice a R.length c) rfl
  have z0 := HZ1.out.cellv 0 (v := .int .i64 0) rfl
  have z1 := HZ1.out.cellv 1 (v := .slice none 0 0) rfl
  have y0 := HZ1.out.frozen 0
  have y1 := HZ1.out.frozen 1
  have hz1 := HZ1.out.lt
  by_cases h0 : netErr N R = 0
  case neg =>
    have hb : (netErr N R != 0) = true := by simp [h0]
    have HC : Hid (revN N R = 0 ∧ revL N R = []) := Lib.hid (by unfold revN revL; simp [h0])
    clear h0
    generalize hEE : netErr N R = E at *
    clear hEE
    go_wp2_with fail
    have HF := Lib.hid (BlkC.net (u := .int .i64 0) (v := .slice none 0 0) HZ1.out)
    have hEF : Ext w ((w1.setCell ⟨w.heap.size + 1, 0, none⟩ (.int .i64 0)).setCell ⟨w.heap.size + 1, 1, none⟩ (.slice none 0 0)) := (hE1.setCell (p := ⟨w.heap.size + 1, 0, none⟩) (by simp) _).setCell (p := ⟨w.heap.size + 1, 1, none⟩) (by simp) _
    generalize ((w1.setCell ⟨w.heap.size + 1, 0, none⟩ (.int .i64 0)).setCell ⟨w.heap.size + 1, 1, none⟩ (.slice none 0 0)) = wf at *
    have c0 := HF.out.cellv 0 (v := .int .i64 0) rfl
    have c1 := HF.out.cellv 1 (v := .slice none 0 0) rfl
    refine bodyPost_ret (v := .tuple #[.agg #[.int .i64 0, .slice none 0 0], .int .i64 E]) (by simp [results, Try.results36, go_sem, c0, c1]) rfl ?_
    rw [HC.out.1, HC.out.2]
    exact ⟨none, 0, rfl, roads_nil _ _, hEF⟩
  have HC : Hid (revN N R = N ∧ revL N R = R.map revD) := Lib.hid (by unfold revN revL; simp [h0])
  have hok := netErr_ok h0
  have HE0 := Lib.hid h0
  rw [h0]
  clear h0
  go_wp2_with fail
  refine (C51.out _ hE1).mono ?_
  rintro e w2 ⟨gv, rfl, hO, hX2⟩
  have hE2 := hE1.trans' hX2
  obtain ⟨ga, gc, rfl, _⟩ := hO.roads
  have hAx := ext_alloc w2 (.cells #[.int .i64 N, .slice ga R.length gc] 24)
  have HN := Lib.hid (BlkC.new w2 #[.int .i64 N, .slice ga R.length gc] 24)
  have hnw := row_young hO (Nat.le_refl _)
  have HO := Lib.hid (show OwnRd (w2.alloc (.cells #[.int .i64 N, .slice ga R.length gc] 24)) w1.heap.size (.slice ga R.length gc) (mapTo revD R 0) from by rw [mapTo_zero]; exact hO.ext hAx)
  have hzw1 := HZ1.out.lt
  have hs2 := hX2.size
  clear g0 g1 z0 z1 y0 y1 hz1 hO
  go_wp2_with fail
  have hXx := hX2.trans' hAx
  generalize (w2.alloc (.cells #[.int .i64 N, .slice ga R.length gc] 24)) = w3 at *
  generalize hx5 : w2.heap.size = x5 at *
  have hx5' : w1.heap.size ≤ x5 := by omega
  clear hx5
  go_loopw [6] (fun i wr => ∃ k : Nat, k ≤ R.length ∧ i = .int .i64 k ∧ Ext w1 wr ∧ Hid (BlkC wr x5 #[.int .i64 N, .slice ga R.length gc] 24) ∧ Hid (OwnRd wr w1.heap.size (.slice ga R.length gc) (mapTo revD R k))) (fun i _ => R.length - (intOf i).toNat)
  case atStart => exact ⟨0, Nat.zero_le _, rfl, hXx, HN, HO⟩
  case round =>
    obtain ⟨k, hk, rfl, hX, HN, HO⟩ := hrel
    have hE := hE1.trans' hX
    have n0 := HN.out.cellv 0 (v := .int .i64 N) rfl
    have n1 := HN.out.cellv 1 (v := .slice ga R.length gc) rfl
    have hzn := HN.out.lt
    by_cases hlt : k < R.length
    case neg =>
      obtain rfl : k = R.length := by omega
      rw [mapTo_all] at HO
      have HZ2 := Lib.hid (HZ1.out.ext hX)
      have z0 := HZ2.out.cellv 0 (v := .int .i64 0) rfl
      have z1 := HZ2.out.cellv 1 (v := .slice none 0 0) rfl
      have y0 := HZ2.out.frozen 0
      have y1 := HZ2.out.frozen 1
      have hzz := HZ2.out.lt
      go_wp2_with fail
      have HF := Lib.hid (BlkC.net (u := .int .i64 N) (v := .slice ga R.length gc) HZ2.out)
      have hEF : Ext w ((wr.setCell ⟨w.heap.size + 1, 0, none⟩ (.int .i64 N)).setCell ⟨w.heap.size + 1, 1, none⟩ (.slice ga R.length gc)) := (hE.setCell (p := ⟨w.heap.size + 1, 0, none⟩) (by simp) _).setCell (p := ⟨w.heap.size + 1, 1, none⟩) (by simp) _
      have hOF : OwnRd ((wr.setCell ⟨w.heap.size + 1, 0, none⟩ (.int .i64 N)).setCell ⟨w.heap.size + 1, 1, none⟩ (.slice ga R.length gc)) w1.heap.size (.slice ga R.length gc) (R.map revD) := (HO.out.other (row_away HO.out (by omega)) 0 _).other (row_away HO.out (by omega)) 1 _
      obtain ⟨gf, gcf, hef, hRf⟩ := hOF.roads
      generalize ((wr.setCell ⟨w.heap.size + 1, 0, none⟩ (.int .i64 N)).setCell ⟨w.heap.size + 1, 1, none⟩ (.slice ga R.length gc)) = wf at *
      have c0 := HF.out.cellv 0 (v := .int .i64 N) rfl
      have c1 := HF.out.cellv 1 (v := .slice ga R.length gc) rfl
      refine bodyPost_ret (v := .tuple #[.agg #[.int .i64 N, .slice ga R.length gc], .int .i64 0]) (by simp [results, Try.results36, go_sem, c0, c1]) rfl ?_
      rw [HC.out.1, HC.out.2]
      simp only [List.length_map, Value.slice.injEq, true_and] at hef
      obtain ⟨rfl, rfl⟩ := hef
      exact ⟨ga, gc, by rw [List.length_map, HE0.out], hRf, hEF⟩
    have HL2 := Lib.hid (mapTo_length revD R k)
    have hlm : k < (mapTo revD R k).length := by rw [HL2.out]; exact hlt
    have hok4 : (mapTo revD R k)[k] = R[k] := by
      have := mapTo_at revD R (k := k) hlt
      rw [if_neg (by omega), List.getElem?_eq_getElem hlm] at this
      exact Option.some.inj this
    obtain ⟨g, hgg⟩ : ∃ g, ga = some ⟨g, 0, none⟩ := by
      obtain ⟨g, c', e, _⟩ := HO.out.form (by omega)
      exact ⟨g, by injection e⟩
    subst hgg
    have Hst1 := Lib.hid (mapTo_set revD R hlt)
    have g0 := (HB1.out.ext hX).cellv 0 (v := .int .i64 N) rfl
    have g1 := (HB1.out.ext hX).cellv 1 (v := .slice a R.length c) rfl
    have hsr := hX.size
    have hzb := (HB1.out.ext hX).lt
    obtain ⟨b, off, rfl, hb, c1, c2, c3, c4⟩ := hl.ext hE k hlt
    have hgw : w1.heap.size ≤ g ∧ g < wr.heap.size := by
      obtain ⟨g', c', e, h1, h2⟩ := HO.out.form (by omega)
      injection e with e1
      injection e1 with e1
      injection e1 with e1
      omega
    have hxg : x5 ≠ g := by simpa [Value.ownBlock] using hnw
    have HS1 : Hid (∀ W, OwnRd W w1.heap.size (.slice (some ⟨g, 0, none⟩) R.length gc) (mapTo revD R k) → OwnRd (W.setCell ⟨g, k * 4, none⟩ (.int .i64 R[k].to)) w1.heap.size (.slice (some ⟨g, 0, none⟩) R.length gc) ((mapTo revD R k).set k ⟨R[k].to, R[k].to, R[k].ln, R[k].wd⟩)) := Lib.hid (fun W h => h.store hlm 0 (by omega) R[k].to ⟨R[k].to, R[k].to, R[k].ln, R[k].wd⟩ (by rw [hok4]; rfl))
    have HS2 : Hid (∀ W, OwnRd W w1.heap.size (.slice (some ⟨g, 0, none⟩) R.length gc) ((mapTo revD R k).set k ⟨R[k].to, R[k].to, R[k].ln, R[k].wd⟩) → OwnRd (W.setCell ⟨g, k * 4 + 1, none⟩ (.int .i64 R[k].fr)) w1.heap.size (.slice (some ⟨g, 0, none⟩) R.length gc) (mapTo revD R (k + 1))) := Lib.hid (fun W h1 => by
      have h2 := h1.store (k := k) (by simpa using hlm) 1 (by omega) R[k].fr (revD R[k]) (by simp [revD])
      rw [List.set_set, Hst1.out] at h2
      exact h2)
    have co := HO.out.cells hlm
    rw [hok4] at co
    have f0 := HO.out.froz (k * 4)
    obtain ⟨q0, q1, _, _⟩ := co
    have HR1 := Lib.hid (hl.ext hE k hlt)
    clear hok4 n0
    generalize hfr : R[k].fr = fr at *
    have Hfr := Lib.hid hfr
    clear hfr
    generalize R[k].to = tt at *
    generalize R[k].ln = ln at *
    generalize R[k].wd = wd at *
    go_wp2_with fail
    go_region
    have HO1 := Lib.hid (HS1.out _ HO.out)
    have HN1 := Lib.hid (HN.out.other (B' := g) hxg (k * 4) (.int .i64 tt))
    have hXf : Ext w1 _ := hX.setCell (p := ⟨g, k * 4, none⟩) hgw.1 (.int .i64 tt)
    clear q0 q1 f0 n1 g0 g1 c1 c2 c3 c4
    have hD : Ext (wr.setCell ⟨g, k * 4, none⟩ (.int .i64 tt)) (wr.setCell ⟨g, k * 4, none⟩ (.int .i64 tt)).drew := ext_drew _
    have HO2 := Lib.hid (HO1.out.ext hD)
    have HN2 := Lib.hid (HN1.out.ext hD)
    have hXg : Ext w1 _ := Ext.trans' hXf hD
    have hEg := hE1.trans' hXg
    generalize (wr.setCell ⟨g, k * 4, none⟩ (.int .i64 tt)).drew = wy at *
    clear HO1 HN1 hXf hD
    have n1 := HN2.out.cellv 1 (v := .slice (some ⟨g, 0, none⟩) R.length gc) rfl
    have hzn2 := HN2.out.lt
    have g1 := (HB1.out.ext hXg).cellv 1 (v := .slice (some ⟨b, off, none⟩) R.length c) rfl
    have hzb2 := (HB1.out.ext hXg).lt
    obtain ⟨b', off', hbe, hb', c1, c2, c3, c4⟩ := hl.ext hEg k hlt
    simp only [Option.some.injEq, Addr.mk.injEq, and_true] at hbe
    obtain ⟨rfl, rfl⟩ := hbe
    rw [Hfr.out] at c1
    have co := HO2.out.cells (k := k) (by simpa using hlm)
    simp only [List.getElem_set_self] at co
    obtain ⟨q0, q1, _, _⟩ := co
    have f1 := HO2.out.froz (k * 4 + 1)
    have hgy : g < wy.heap.size := by
      obtain ⟨g', c', e, h1, h2⟩ := HO2.out.form (by rw [List.length_set]; omega)
      injection e with e1
      injection e1 with e1
      injection e1 with e1
      omega
    go_wp2_with fail
    go_region
    have hD2 : Ext (wy.setCell ⟨g, k * 4 + 1, none⟩ (.int .i64 fr)) (wy.setCell ⟨g, k * 4 + 1, none⟩ (.int .i64 fr)).drew := ext_drew _
    have HO3 := Lib.hid ((HS2.out _ HO2.out).ext hD2)
    have HN3 := Lib.hid ((HN2.out.other (B' := g) hxg (k * 4 + 1) (.int .i64 fr)).ext hD2)
    have hXh : Ext w1 (wy.setCell ⟨g, k * 4 + 1, none⟩ (.int .i64 fr)) := hXg.setCell (p := ⟨g, k * 4 + 1, none⟩) hgw.1 (.int .i64 fr)
    have hXi := Ext.trans' hXh hD2
    generalize (wy.setCell ⟨g, k * 4 + 1, none⟩ (.int .i64 fr)).drew = wz at *
    go_wp2_with fail
    go_roundw
    case rel => exact ⟨k + 1, by omega, by go_num, hXi, HN3, HO3⟩
    case measure => simp [intOf]; omega
end Go.Proofs.Ytbejgbflipoboaa
