/- Contracts of roads: Toll of both. -/
import Derived.Test.YtbejgbflipoboaaT18
namespace Go.Proofs.Ytbejgbflipoboaa
open Go.RowKit
attribute [local go_sem] GW.cell
theorem tolErr_net {N : Int} {R : List Road} {node by_ : Int} (h : netErr N R ≠ 0) : tolErr N R node by_ = netErr N R ∧ tolN N R node by_ = 0 ∧ tolL N R node by_ = [] := by
  have e : tolErr N R node by_ = netErr N R := by unfold tolErr; rw [if_pos h]
  exact ⟨e, by unfold tolN; rw [e, if_neg h], by unfold tolL; rw [e, if_neg h]⟩
theorem tolErr_node {N : Int} {R : List Road} {node by_ : Int} (h : netErr N R = 0) (h2 : withinB node 0 (N - 1) = false) : tolErr N R node by_ = 4 ∧ tolN N R node by_ = 0 ∧ tolL N R node by_ = [] := by
  have e : tolErr N R node by_ = 4 := by unfold tolErr; rw [if_neg (by simp [h]), h2]; rfl
  exact ⟨e, by unfold tolN; rw [e]; rfl, by unfold tolL; rw [e]; rfl⟩
theorem tolErr_bad {N : Int} {R : List Road} {node by_ : Int} (h : netErr N R = 0) (h2 : withinB node 0 (N - 1) = true) {k : Nat} (hk : k < R.length) (h3 : tolOk node by_ R[k] = false) : tolErr N R node by_ = 1 ∧ tolN N R node by_ = 0 ∧ tolL N R node by_ = [] := by
  have e : tolErr N R node by_ = 1 := by unfold tolErr; rw [if_neg (by simp [h]), if_pos h2, all_no hk h3]; rfl
  exact ⟨e, by unfold tolN; rw [e]; rfl, by unfold tolL; rw [e]; rfl⟩
theorem tolErr_good {N : Int} {R : List Road} {node by_ : Int} (h : netErr N R = 0) (h2 : withinB node 0 (N - 1) = true) (h3 : ∀ j, (hj : j < R.length) → tolOk node by_ R[j] = true) : tolErr N R node by_ = 0 ∧ tolN N R node by_ = N ∧ tolL N R node by_ = R.map (tolD node by_) := by
  have e : tolErr N R node by_ = 0 := by unfold tolErr; rw [if_neg (by simp [h]), if_pos h2, all_yes h3]; rfl
  exact ⟨e, by unfold tolN; rw [e]; rfl, by unfold tolL; rw [e]; rfl⟩
theorem mapTo_skip {f : Road → Road} {R : List Road} {k : Nat} (hk : k < R.length) (h : f R[k] = R[k]) : mapTo f R (k + 1) = mapTo f R k := by
  rw [← mapTo_set f R hk, h]
  refine List.ext_getElem? fun j => ?_
  rw [List.getElem?_set]
  by_cases e : k = j
  · subst e; rw [if_pos rfl, mapTo_length, if_pos hk, mapTo_at f R hk, if_neg (by omega)]
  · rw [if_neg e]
set_option maxRecDepth 20000 in
set_option maxHeartbeats 16000000 in
theorem f53_c (N : Int) (a : Option Addr) (n c : Nat) (R : List Road) (node by_ : Int) (w : World) (hl : Roads w a R) (hn : R.length = n) (hlen : n ≤ 1000000) :
    Calls Try.prog 53 #[.agg #[.int .i64 N, .slice a n c], .int .i64 node, .int .i64 by_] w (RetNet (tolN N R node by_) (tolL N R node by_) (tolErr N R node by_) w) := by
  subst hn
  have C22 := Lib.hid (fun W (hW : Ext w W) => f23_c N a R.length c R W (hl.ext hW) rfl (by omega))
  have CCp := Lib.hid (fun W (hW : Ext w W) => f51_c N a R.length c R W (hl.ext hW) rfl hlen)
  have hE0 := ext_alloc w (.cells #[.int .i64 N, .slice a R.length c] 24)
  have HB := Lib.hid (BlkC.new w #[.int .i64 N, .slice a R.length c] 24)
  have hz := HB.out.lt
  go_enter Try.func53, Try.ntmps53
  go_wp2_with fail
  have hEz : Ext w ((w.alloc (.cells #[.int .i64 N, .slice a R.length c] 24)).alloc (.cells #[.int .i64 0, .slice none 0 0] 24)) := hE0.trans' (ext_alloc _ _)
  have HZ := Lib.hid (BlkC.new (w.alloc (.cells #[.int .i64 N, .slice a R.length c] 24)) #[.int .i64 0, .slice none 0 0] 24)
  have HB0 := Lib.hid (HB.out.alloc (.cells #[.int .i64 0, .slice none 0 0] 24))
  have hzz : (w.alloc (.cells #[.int .i64 N, .slice a R.length c] 24)).heap.size = w.heap.size + 1 := by simp
  rw [hzz] at HZ
  clear hzz HB hz
  have hz := HZ.out.lt
  generalize (w.alloc (.cells #[.int .i64 N, .slice a R.length c] 24)).alloc (.cells #[.int .i64 0, .slice none 0 0] 24) = w0 at *
  refine (C22.out _ hEz).mono ?_
  rintro e w1 ⟨rfl, hX1⟩
  have hE1 := hEz.trans' hX1
  have HB1 := Lib.hid (HB0.out.ext hX1)
  have HZ1 := Lib.hid (HZ.out.ext hX1)
  have g0 := HB1.out.cellv 0 (v := .int .i64 N) rfl
  have g1 := HB1.out.cellv 1 (v := .slice a R.length c) rfl
  have z0 := HZ1.out.cellv 0 (v := .int .i64 0) rfl
  have z1 := HZ1.out.cellv 1 (v := .slice none 0 0) rfl
  have y0 := HZ1.out.frozen 0
  have y1 := HZ1.out.frozen 1
  have hzz := HZ1.out.lt
  by_cases h0 : netErr N R = 0
  case neg =>
    have hb : (netErr N R != 0) = true := by simp [h0]
    have HC := Lib.hid (tolErr_net (node := node) (by_ := by_) h0)
    clear h0
    generalize hEE : netErr N R = E at *
    clear hEE
    go_wp2_with fail
    have HF := Lib.hid (BlkC.net (u := .int .i64 0) (v := .slice none 0 0) HZ1.out)
    have hEF : Ext w ((w1.setCell ⟨w.heap.size + 1, 0, none⟩ (.int .i64 0)).setCell ⟨w.heap.size + 1, 1, none⟩ (.slice none 0 0)) := (hE1.setCell (p := ⟨w.heap.size + 1, 0, none⟩) (by simp) _).setCell (p := ⟨w.heap.size + 1, 1, none⟩) (by simp) _
    generalize ((w1.setCell ⟨w.heap.size + 1, 0, none⟩ (.int .i64 0)).setCell ⟨w.heap.size + 1, 1, none⟩ (.slice none 0 0)) = wf at *
    have c0f := HF.out.cellv 0 (v := .int .i64 0) rfl
    have c1f := HF.out.cellv 1 (v := .slice none 0 0) rfl
    refine bodyPost_ret (v := .tuple #[.agg #[.int .i64 0, .slice none 0 0], .int .i64 E]) (by simp [results, Try.results53, go_sem, c0f, c1f]) rfl ?_
    rw [HC.out.1, HC.out.2.1, HC.out.2.2]
    exact ⟨none, 0, rfl, roads_nil _ _, hEF⟩
  have hok := netErr_ok h0
  have hN := hok.n1
  have HN0 := Lib.hid h0
  rw [h0]
  clear h0
  go_wp2_with fail
  refine (f65_c _ _ _ _).mono ?_
  rintro e w9 ⟨rfl, rfl⟩
  rcases Bool.eq_false_or_eq_true (withinB node 0 (N - 1)) with h1 | h1
  case inr =>
    have HC := Lib.hid (tolErr_node (by_ := by_) HN0.out h1)
    rw [h1]
    clear h1
    go_wp2_with fail
    have HF := Lib.hid (BlkC.net (u := .int .i64 0) (v := .slice none 0 0) HZ1.out)
    have hEF : Ext w ((w1.setCell ⟨w.heap.size + 1, 0, none⟩ (.int .i64 0)).setCell ⟨w.heap.size + 1, 1, none⟩ (.slice none 0 0)) := (hE1.setCell (p := ⟨w.heap.size + 1, 0, none⟩) (by simp) _).setCell (p := ⟨w.heap.size + 1, 1, none⟩) (by simp) _
    generalize ((w1.setCell ⟨w.heap.size + 1, 0, none⟩ (.int .i64 0)).setCell ⟨w.heap.size + 1, 1, none⟩ (.slice none 0 0)) = wf at *
    have c0f := HF.out.cellv 0 (v := .int .i64 0) rfl
    have c1f := HF.out.cellv 1 (v := .slice none 0 0) rfl
    refine bodyPost_ret (v := .tuple #[.agg #[.int .i64 0, .slice none 0 0], .int .i64 4]) (by simp [results, Try.results53, go_sem, c0f, c1f]) rfl ?_
    rw [HC.out.1, HC.out.2.1, HC.out.2.2]
    exact ⟨none, 0, rfl, roads_nil _ _, hEF⟩
  have HNd := Lib.hid h1
  rw [h1]
  have hnd := withinB_iff.1 h1
  clear h1
  go_wp2_with fail
  refine (CCp.out _ hE1).mono ?_
  rintro e w2 ⟨gv, rfl, hO, hX2⟩
  have hE2 := hE1.trans' hX2
  obtain ⟨ga, gc, rfl, _⟩ := hO.roads
  have hAx := ext_alloc w2 (.cells #[.int .i64 N, .slice ga R.length gc] 24)
  have HN := Lib.hid (BlkC.new w2 #[.int .i64 N, .slice ga R.length gc] 24)
  have hnw := row_young hO (Nat.le_refl _)
  have HO := Lib.hid (show OwnRd (w2.alloc (.cells #[.int .i64 N, .slice ga R.length gc] 24)) w1.heap.size (.slice ga R.length gc) (mapTo (tolD node by_) R 0) from by rw [mapTo_zero]; exact hO.ext hAx)
  have hzw1 := HZ1.out.lt
  have hs2 := hX2.size
  clear g0 g1 z0 z1 y0 y1 hzz hO
  go_wp2_with fail
  have hXx := hX2.trans' hAx
  generalize (w2.alloc (.cells #[.int .i64 N, .slice ga R.length gc] 24)) = w3 at *
  generalize hx5 : w2.heap.size = x5 at *
  have hx5' : w1.heap.size ≤ x5 := by omega
  clear hx5
  go_loopw [10] (fun i wr => ∃ k : Nat, k ≤ R.length ∧ i = .int .i64 k ∧ Ext w1 wr ∧ Hid (BlkC wr x5 #[.int .i64 N, .slice ga R.length gc] 24) ∧ Hid (OwnRd wr w1.heap.size (.slice ga R.length gc) (mapTo (tolD node by_) R k)) ∧ Hid (∀ j, (hj : j < R.length) → j < k → tolOk node by_ R[j] = true)) (fun i _ => R.length - (intOf i).toNat)
  case atStart => exact ⟨0, Nat.zero_le _, rfl, hXx, HN, HO, Lib.hid (fun j hj h => by omega)⟩
  case round =>
    obtain ⟨k, hk, rfl, hX, HN, HO, HT⟩ := hrel
    have hE := hE1.trans' hX
    have n0 := HN.out.cellv 0 (v := .int .i64 N) rfl
    have n1 := HN.out.cellv 1 (v := .slice ga R.length gc) rfl
    have hzn := HN.out.lt
    have HZ2 := Lib.hid (HZ1.out.ext hX)
    have z0 := HZ2.out.cellv 0 (v := .int .i64 0) rfl
    have z1 := HZ2.out.cellv 1 (v := .slice none 0 0) rfl
    have y0 := HZ2.out.frozen 0
    have y1 := HZ2.out.frozen 1
    have hzz := HZ2.out.lt
    by_cases hlt : k < R.length
    case neg =>
      obtain rfl : k = R.length := by omega
      rw [mapTo_all] at HO
      have HG := Lib.hid (tolErr_good (by_ := by_) HN0.out HNd.out (fun j hj => HT.out j hj hj))
      go_wp2_with fail
      have HF := Lib.hid (BlkC.net (u := .int .i64 N) (v := .slice ga R.length gc) HZ2.out)
      have hEF : Ext w ((wr.setCell ⟨w.heap.size + 1, 0, none⟩ (.int .i64 N)).setCell ⟨w.heap.size + 1, 1, none⟩ (.slice ga R.length gc)) := (hE.setCell (p := ⟨w.heap.size + 1, 0, none⟩) (by simp) _).setCell (p := ⟨w.heap.size + 1, 1, none⟩) (by simp) _
      have hOF : OwnRd ((wr.setCell ⟨w.heap.size + 1, 0, none⟩ (.int .i64 N)).setCell ⟨w.heap.size + 1, 1, none⟩ (.slice ga R.length gc)) w1.heap.size (.slice ga R.length gc) (R.map (tolD node by_)) := (HO.out.other (row_away HO.out (by omega)) 0 _).other (row_away HO.out (by omega)) 1 _
      obtain ⟨gf, gcf, hef, hRf⟩ := hOF.roads
      generalize ((wr.setCell ⟨w.heap.size + 1, 0, none⟩ (.int .i64 N)).setCell ⟨w.heap.size + 1, 1, none⟩ (.slice ga R.length gc)) = wf at *
      have c0f := HF.out.cellv 0 (v := .int .i64 N) rfl
      have c1f := HF.out.cellv 1 (v := .slice ga R.length gc) rfl
      refine bodyPost_ret (v := .tuple #[.agg #[.int .i64 N, .slice ga R.length gc], .int .i64 0]) (by simp [results, Try.results53, go_sem, c0f, c1f]) rfl ?_
      rw [HG.out.1, HG.out.2.1, HG.out.2.2]
      simp only [List.length_map, Value.slice.injEq, true_and] at hef
      obtain ⟨rfl, rfl⟩ := hef
      exact ⟨ga, gc, by rw [List.length_map], hRf, hEF⟩
    have HL2 := Lib.hid (mapTo_length (tolD node by_) R k)
    have hlm : k < (mapTo (tolD node by_) R k).length := by rw [HL2.out]; exact hlt
    have hok4 : (mapTo (tolD node by_) R k)[k] = R[k] := by
      have := mapTo_at (tolD node by_) R (k := k) hlt
      rw [if_neg (by omega), List.getElem?_eq_getElem hlm] at this
      exact Option.some.inj this
    obtain ⟨g, hgg⟩ : ∃ g, ga = some ⟨g, 0, none⟩ := by
      obtain ⟨g, c', e, _⟩ := HO.out.form (by omega)
      exact ⟨g, by injection e⟩
    subst hgg
    have Hst1 := Lib.hid (mapTo_set (tolD node by_) R hlt)
    have Hsk := Lib.hid (mapTo_skip (f := tolD node by_) hlt)
    have hsr := hX.size
    have hgw : w1.heap.size ≤ g ∧ g < wr.heap.size := by
      obtain ⟨g', c', e, h1, h2⟩ := HO.out.form (by omega)
      injection e with e1
      injection e1 with e1
      injection e1 with e1
      omega
    have hxg : x5 ≠ g := by simpa [Value.ownBlock] using hnw
    have HS : Hid (∀ v, v = tolLn node by_ R[k] → OwnRd (wr.setCell ⟨g, k * 4 + 2, none⟩ (.int .i64 v)) w1.heap.size (.slice (some ⟨g, 0, none⟩) R.length gc) (mapTo (tolD node by_) R (k + 1))) := Lib.hid (fun v hv => by
      have h := HO.out.store hlm 2 (by omega) v (tolD node by_ R[k]) (by rw [hok4, hv]; rfl)
      rw [Hst1.out] at h
      exact h)
    have HBad := Lib.hid (fun h3 : tolOk node by_ R[k] = false => tolErr_bad HN0.out HNd.out hlt h3)
    have HT1 : Hid (tolOk node by_ R[k] = true → ∀ j, (hj : j < R.length) → j < k + 1 → tolOk node by_ R[j] = true) := Lib.hid (fun h j hj hjk => by
      rcases Nat.lt_succ_iff_lt_or_eq.1 hjk with h2 | rfl
      · exact HT.out j hj h2
      · exact h)
    have co := HO.out.cells hlm
    rw [hok4] at co
    have f2 := HO.out.froz (k * 4 + 2)
    have hln := hok.ln k hlt
    have hne := hok.ne k hlt
    obtain ⟨q0, q1, q2, _⟩ := co
    have HK4 := Lib.hid hok4
    clear hok4
    clear HK4
    generalize hr : R[k] = r at *
    have Hr := Lib.hid hr
    clear hr
    have Hto : Hid (∀ h : r.to = node, tolLn node by_ r = r.ln + by_) := Lib.hid (fun h => by unfold tolLn; rw [if_pos h])
    have Hfr : Hid (r.to ≠ node → r.fr = node → tolLn node by_ r = r.ln - by_) := Lib.hid (fun h h2 => by unfold tolLn; rw [if_neg h, if_pos h2])
    have Hno : Hid (r.to ≠ node → r.fr ≠ node → tolD node by_ r = r ∧ tolOk node by_ r = true) := Lib.hid (fun h h2 => by
      have ht : touch node r = false := by simp [touch, h, h2]
      exact ⟨tol_same ht, by simp [tolOk, ht]⟩)
    have Hb1 : Hid ((r.to = node ∨ r.fr = node) → withinB by_ (-99) 99 = false → tolOk node by_ r = false) := Lib.hid (fun h h2 => by
      have ht : touch node r = true := by rcases h with h | h <;> simp [touch, h]
      simp [tolOk, ht, h2])
    have Hb2 : Hid ((r.to = node ∨ r.fr = node) → withinB by_ (-99) 99 = true → tolOk node by_ r = withinB (tolLn node by_ r) 0 99) := Lib.hid (fun h h2 => by
      have ht : touch node r = true := by rcases h with h | h <;> simp [touch, h]
      simp [tolOk, ht, h2])
    have hto0 : tolOk node by_ r = true ∨ tolOk node by_ r = false := by cases tolOk node by_ r <;> simp
    obtain ⟨fr, tt, ln, wd⟩ := r
    simp only at *
    by_cases ht : tt = node
    case neg =>
      by_cases hf : fr = node
      case neg =>
        have hd1 : (tt != node) = true := by simp [ht]
        have hd2 : (fr != node) = true := by simp [hf]
        obtain ⟨m1, m2⟩ := Hno.out ht hf
        have M1 := Lib.hid (Hsk.out m1)
        have M2 := Lib.hid (HT1.out m2)
        clear m1 m2 ht hf
        go_wp2_with fail
        go_roundw
        case rel => exact ⟨k + 1, by omega, by go_num, hX, HN, Lib.hid (by rw [M1.out]; exact HO.out), M2⟩
        case measure => simp [intOf]; omega
      have hd1 : (tt != node) = true := by simp [ht]
      have hd2 : (fr != node) = false := by simp [hf]
      have hd3 : (tt == node) = false := by simp [ht]
      have HV := Lib.hid (Hfr.out ht hf)
      have K1 := Lib.hid (Hb1.out (.inr hf))
      have K2 := Lib.hid (Hb2.out (.inr hf))
      clear ht hf
      go_wp2_with fail
      refine (f65_c _ _ _ _).mono ?_
      rintro e w9 ⟨rfl, rfl⟩
      rcases Bool.eq_false_or_eq_true (withinB by_ (-99) 99) with h1 | h1
      case inr =>
        have HC := Lib.hid (HBad.out (K1.out h1))
        rw [h1]
        clear h1
        go_wp2_with fail
        have HF := Lib.hid (BlkC.net (u := .int .i64 0) (v := .slice none 0 0) HZ2.out)
        have hEF : Ext w ((wr.setCell ⟨w.heap.size + 1, 0, none⟩ (.int .i64 0)).setCell ⟨w.heap.size + 1, 1, none⟩ (.slice none 0 0)) := (hE.setCell (p := ⟨w.heap.size + 1, 0, none⟩) (by simp) _).setCell (p := ⟨w.heap.size + 1, 1, none⟩) (by simp) _
        generalize ((wr.setCell ⟨w.heap.size + 1, 0, none⟩ (.int .i64 0)).setCell ⟨w.heap.size + 1, 1, none⟩ (.slice none 0 0)) = wf at *
        have c0f := HF.out.cellv 0 (v := .int .i64 0) rfl
        have c1f := HF.out.cellv 1 (v := .slice none 0 0) rfl
        refine bodyPost_ret (v := .tuple #[.agg #[.int .i64 0, .slice none 0 0], .int .i64 1]) (by simp [results, Try.results53, go_sem, c0f, c1f]) rfl ?_
        rw [HC.out.1, HC.out.2.1, HC.out.2.2]
        exact ⟨none, 0, rfl, roads_nil _ _, hEF⟩
      have HW := Lib.hid (K2.out h1)
      have hby := withinB_iff.1 h1
      rw [h1]
      clear h1
      have HS2 := Lib.hid (HS.out (ln - by_) HV.out.symm)
      have HZ3 := Lib.hid (HZ2.out.other (B' := g) (by omega) (k * 4 + 2) (.int .i64 (ln - by_)))
      have HN3 := Lib.hid (HN.out.other (B' := g) hxg (k * 4 + 2) (.int .i64 (ln - by_)))
      have hX3 : Ext w1 (wr.setCell ⟨g, k * 4 + 2, none⟩ (.int .i64 (ln - by_))) := hX.setCell (p := ⟨g, k * 4 + 2, none⟩) hgw.1 _
      have hE3 := hE1.trans' hX3
      have z0 := HZ3.out.cellv 0 (v := .int .i64 0) rfl
      have z1 := HZ3.out.cellv 1 (v := .slice none 0 0) rfl
      have y0 := HZ3.out.frozen 0
      have y1 := HZ3.out.frozen 1
      have hzz3 := HZ3.out.lt
      have n3 := HN3.out.cellv 1 (v := .slice (some ⟨g, 0, none⟩) R.length gc) rfl
      have hzn3 := HN3.out.lt
      rw [HV.out] at HW
      go_wp2_with fail
      generalize wr.setCell ⟨g, k * 4 + 2, none⟩ (.int .i64 (ln - by_)) = wz at *
      refine (f65_c _ _ _ _).mono ?_
      rintro e w9 ⟨rfl, rfl⟩
      rcases Bool.eq_false_or_eq_true (withinB (ln - by_) 0 99) with h1 | h1
      case inr =>
        rw [h1] at HW
        have HC := Lib.hid (HBad.out HW.out)
        rw [h1]
        clear h1
        go_wp2_with fail
        have HF := Lib.hid (BlkC.net (u := .int .i64 0) (v := .slice none 0 0) HZ3.out)
        have hEF : Ext w ((wz.setCell ⟨w.heap.size + 1, 0, none⟩ (.int .i64 0)).setCell ⟨w.heap.size + 1, 1, none⟩ (.slice none 0 0)) := (hE3.setCell (p := ⟨w.heap.size + 1, 0, none⟩) (by simp) _).setCell (p := ⟨w.heap.size + 1, 1, none⟩) (by simp) _
        generalize ((wz.setCell ⟨w.heap.size + 1, 0, none⟩ (.int .i64 0)).setCell ⟨w.heap.size + 1, 1, none⟩ (.slice none 0 0)) = wf at *
        have c0f := HF.out.cellv 0 (v := .int .i64 0) rfl
        have c1f := HF.out.cellv 1 (v := .slice none 0 0) rfl
        refine bodyPost_ret (v := .tuple #[.agg #[.int .i64 0, .slice none 0 0], .int .i64 1]) (by simp [results, Try.results53, go_sem, c0f, c1f]) rfl ?_
        rw [HC.out.1, HC.out.2.1, HC.out.2.2]
        exact ⟨none, 0, rfl, roads_nil _ _, hEF⟩
      rw [h1] at HW
      have M2 := Lib.hid (HT1.out HW.out)
      rw [h1]
      clear h1
      go_wp2_with fail
      go_roundw
      case rel => exact ⟨k + 1, by omega, by go_num, hX3, HN3, HS2, M2⟩
      case measure => simp [intOf]; omega
    case pos =>
      have hd1 : (tt != node) = false := by simp [ht]
      have hd2 : (fr != node) = true := by simp; omega
      have hd3 : (tt == node) = true := by simp [ht]
      have HV := Lib.hid (Hto.out ht)
      have K1 := Lib.hid (Hb1.out (.inl ht))
      have K2 := Lib.hid (Hb2.out (.inl ht))
      clear ht
      go_wp2_with fail
      refine (f65_c _ _ _ _).mono ?_
      rintro e w9 ⟨rfl, rfl⟩
      rcases Bool.eq_false_or_eq_true (withinB by_ (-99) 99) with h1 | h1
      case inr =>
        have HC := Lib.hid (HBad.out (K1.out h1))
        rw [h1]
        clear h1
        go_wp2_with fail
        have HF := Lib.hid (BlkC.net (u := .int .i64 0) (v := .slice none 0 0) HZ2.out)
        have hEF : Ext w ((wr.setCell ⟨w.heap.size + 1, 0, none⟩ (.int .i64 0)).setCell ⟨w.heap.size + 1, 1, none⟩ (.slice none 0 0)) := (hE.setCell (p := ⟨w.heap.size + 1, 0, none⟩) (by simp) _).setCell (p := ⟨w.heap.size + 1, 1, none⟩) (by simp) _
        generalize ((wr.setCell ⟨w.heap.size + 1, 0, none⟩ (.int .i64 0)).setCell ⟨w.heap.size + 1, 1, none⟩ (.slice none 0 0)) = wf at *
        have c0f := HF.out.cellv 0 (v := .int .i64 0) rfl
        have c1f := HF.out.cellv 1 (v := .slice none 0 0) rfl
        refine bodyPost_ret (v := .tuple #[.agg #[.int .i64 0, .slice none 0 0], .int .i64 1]) (by simp [results, Try.results53, go_sem, c0f, c1f]) rfl ?_
        rw [HC.out.1, HC.out.2.1, HC.out.2.2]
        exact ⟨none, 0, rfl, roads_nil _ _, hEF⟩
      have HW := Lib.hid (K2.out h1)
      have hby := withinB_iff.1 h1
      rw [h1]
      clear h1
      have HS2 := Lib.hid (HS.out (ln + by_) HV.out.symm)
      have HZ3 := Lib.hid (HZ2.out.other (B' := g) (by omega) (k * 4 + 2) (.int .i64 (ln + by_)))
      have HN3 := Lib.hid (HN.out.other (B' := g) hxg (k * 4 + 2) (.int .i64 (ln + by_)))
      have hX3 : Ext w1 (wr.setCell ⟨g, k * 4 + 2, none⟩ (.int .i64 (ln + by_))) := hX.setCell (p := ⟨g, k * 4 + 2, none⟩) hgw.1 _
      have hE3 := hE1.trans' hX3
      have z0 := HZ3.out.cellv 0 (v := .int .i64 0) rfl
      have z1 := HZ3.out.cellv 1 (v := .slice none 0 0) rfl
      have y0 := HZ3.out.frozen 0
      have y1 := HZ3.out.frozen 1
      have hzz3 := HZ3.out.lt
      have n3 := HN3.out.cellv 1 (v := .slice (some ⟨g, 0, none⟩) R.length gc) rfl
      have hzn3 := HN3.out.lt
      rw [HV.out] at HW
      go_wp2_with fail
      generalize wr.setCell ⟨g, k * 4 + 2, none⟩ (.int .i64 (ln + by_)) = wz at *
      refine (f65_c _ _ _ _).mono ?_
      rintro e w9 ⟨rfl, rfl⟩
      rcases Bool.eq_false_or_eq_true (withinB (ln + by_) 0 99) with h1 | h1
      case inr =>
        rw [h1] at HW
        have HC := Lib.hid (HBad.out HW.out)
        rw [h1]
        clear h1
        go_wp2_with fail
        have HF := Lib.hid (BlkC.net (u := .int .i64 0) (v := .slice none 0 0) HZ3.out)
        have hEF : Ext w ((wz.setCell ⟨w.heap.size + 1, 0, none⟩ (.int .i64 0)).setCell ⟨w.heap.size + 1, 1, none⟩ (.slice none 0 0)) := (hE3.setCell (p := ⟨w.heap.size + 1, 0, none⟩) (by simp) _).setCell (p := ⟨w.heap.size + 1, 1, none⟩) (by simp) _
        generalize ((wz.setCell ⟨w.heap.size + 1, 0, none⟩ (.int .i64 0)).setCell ⟨w.heap.size + 1, 1, none⟩ (.slice none 0 0)) = wf at *
        have c0f := HF.out.cellv 0 (v := .int .i64 0) rfl
        have c1f := HF.out.cellv 1 (v := .slice none 0 0) rfl
        refine bodyPost_ret (v := .tuple #[.agg #[.int .i64 0, .slice none 0 0], .int .i64 1]) (by simp [results, Try.results53, go_sem, c0f, c1f]) rfl ?_
        rw [HC.out.1, HC.out.2.1, HC.out.2.2]
        exact ⟨none, 0, rfl, roads_nil _ _, hEF⟩
      rw [h1] at HW
      have M2 := Lib.hid (HT1.out HW.out)
      rw [h1]
      clear h1
      go_wp2_with fail
      go_roundw
      case rel => exact ⟨k + 1, by omega, by go_num, hX3, HN3, HS2, M2⟩
      case measure => simp [intOf]; omega
set_option maxRecDepth 20000 in
set_option maxHeartbeats 16000000 in
theorem f52_c (N : Int) (a : Option Addr) (n c : Nat) (R : List Road) (node by_ : Int) (w : World) (hl : Roads w a R) (hn : R.length = n) (hlen : n ≤ 1000000) :
    Calls Try.prog 52 #[.agg #[.int .i64 N, .slice a n c], .int .i64 node, .int .i64 by_] w (RetNet (tolN N R node by_) (tolL N R node by_) (tolErr N R node by_) w) := by
  subst hn
  have C22 := Lib.hid (fun W (hW : Ext w W) => f22_c N a R.length c R W (hl.ext hW) rfl (by omega))
  have CCp := Lib.hid (fun W (hW : Ext w W) => f70_c a R.length c R W (hl.ext hW) rfl hlen)
  have hE0 := ext_alloc w (.cells #[.int .i64 N, .slice a R.length c] 24)
  have HB := Lib.hid (BlkC.new w #[.int .i64 N, .slice a R.length c] 24)
  have hz := HB.out.lt
  go_enter Try.func52, Try.ntmps52
  go_wp2_with fail
  have hEz : Ext w ((w.alloc (.cells #[.int .i64 N, .slice a R.length c] 24)).alloc (.cells #[.int .i64 0, .slice none 0 0] 24)) := hE0.trans' (ext_alloc _ _)
  have HZ := Lib.hid (BlkC.new (w.alloc (.cells #[.int .i64 N, .slice a R.length c] 24)) #[.int .i64 0, .slice none 0 0] 24)
  have HB0 := Lib.hid (HB.out.alloc (.cells #[.int .i64 0, .slice none 0 0] 24))
  have hzz : (w.alloc (.cells #[.int .i64 N, .slice a R.length c] 24)).heap.size = w.heap.size + 1 := by simp
  rw [hzz] at HZ
  clear hzz HB hz
  have hz := HZ.out.lt
  generalize (w.alloc (.cells #[.int .i64 N, .slice a R.length c] 24)).alloc (.cells #[.int .i64 0, .slice none 0 0] 24) = w0 at *
  refine (C22.out _ hEz).mono ?_
  rintro e w1 ⟨rfl, hX1⟩
  have hE1 := hEz.trans' hX1
  have HB1 := Lib.hid (HB0.out.ext hX1)
  have HZ1 := Lib.hid (HZ.out.ext hX1)
  have g0 := HB1.out.cellv 0 (v := .int .i64 N) rfl
  have g1 := HB1.out.cellv 1 (v := .slice a R.length c) rfl
  have z0 := HZ1.out.cellv 0 (v := .int .i64 0) rfl
  have z1 := HZ1.out.cellv 1 (v := .slice none 0 0) rfl
  have y0 := HZ1.out.frozen 0
  have y1 := HZ1.out.frozen 1
  have hzz := HZ1.out.lt
  by_cases h0 : netErr N R = 0
  case neg =>
    have hb : (netErr N R != 0) = true := by simp [h0]
    have HC := Lib.hid (tolErr_net (node := node) (by_ := by_) h0)
    clear h0
    generalize hEE : netErr N R = E at *
    clear hEE
    go_wp2_with fail
    have HF := Lib.hid (BlkC.net (u := .int .i64 0) (v := .slice none 0 0) HZ1.out)
    have hEF : Ext w ((w1.setCell ⟨w.heap.size + 1, 0, none⟩ (.int .i64 0)).setCell ⟨w.heap.size + 1, 1, none⟩ (.slice none 0 0)) := (hE1.setCell (p := ⟨w.heap.size + 1, 0, none⟩) (by simp) _).setCell (p := ⟨w.heap.size + 1, 1, none⟩) (by simp) _
    generalize ((w1.setCell ⟨w.heap.size + 1, 0, none⟩ (.int .i64 0)).setCell ⟨w.heap.size + 1, 1, none⟩ (.slice none 0 0)) = wf at *
    have c0f := HF.out.cellv 0 (v := .int .i64 0) rfl
    have c1f := HF.out.cellv 1 (v := .slice none 0 0) rfl
    refine bodyPost_ret (v := .tuple #[.agg #[.int .i64 0, .slice none 0 0], .int .i64 E]) (by simp [results, Try.results52, go_sem, c0f, c1f]) rfl ?_
    rw [HC.out.1, HC.out.2.1, HC.out.2.2]
    exact ⟨none, 0, rfl, roads_nil _ _, hEF⟩
  have hok := netErr_ok h0
  have hN := hok.n1
  have HN0 := Lib.hid h0
  rw [h0]
  clear h0
  go_wp2_with fail
  refine (f64_c _ _ _ _).mono ?_
  rintro e w9 ⟨rfl, rfl⟩
  rcases Bool.eq_false_or_eq_true (withinB node 0 (N - 1)) with h1 | h1
  case inr =>
    have HC := Lib.hid (tolErr_node (by_ := by_) HN0.out h1)
    rw [h1]
    clear h1
    go_wp2_with fail
    have HF := Lib.hid (BlkC.net (u := .int .i64 0) (v := .slice none 0 0) HZ1.out)
    have hEF : Ext w ((w1.setCell ⟨w.heap.size + 1, 0, none⟩ (.int .i64 0)).setCell ⟨w.heap.size + 1, 1, none⟩ (.slice none 0 0)) := (hE1.setCell (p := ⟨w.heap.size + 1, 0, none⟩) (by simp) _).setCell (p := ⟨w.heap.size + 1, 1, none⟩) (by simp) _
    generalize ((w1.setCell ⟨w.heap.size + 1, 0, none⟩ (.int .i64 0)).setCell ⟨w.heap.size + 1, 1, none⟩ (.slice none 0 0)) = wf at *
    have c0f := HF.out.cellv 0 (v := .int .i64 0) rfl
    have c1f := HF.out.cellv 1 (v := .slice none 0 0) rfl
    refine bodyPost_ret (v := .tuple #[.agg #[.int .i64 0, .slice none 0 0], .int .i64 4]) (by simp [results, Try.results52, go_sem, c0f, c1f]) rfl ?_
    rw [HC.out.1, HC.out.2.1, HC.out.2.2]
    exact ⟨none, 0, rfl, roads_nil _ _, hEF⟩
  have HNd := Lib.hid h1
  rw [h1]
  have hnd := withinB_iff.1 h1
  clear h1
  go_upto_region 6 with fail
  go_cut [9] from 25 to 30 (fun v5 wx => ∃ x5 gv, v5 = .pointer (some ⟨x5, 0, none⟩) ∧ w1.heap.size ≤ x5 ∧ some x5 ≠ gv.ownBlock ∧ Hid (BlkC wx x5 #[.int .i64 N, gv] 24) ∧ Hid (OwnRd wx w1.heap.size gv R) ∧ Ext w1 wx)
  case first =>
    go_region_held3 (fun w' => w'.cell? ⟨w.heap.size, 0, none⟩ = some (.int .i64 N) ∧ w'.cell? ⟨w.heap.size, 1, none⟩ = some (.slice a R.length c)) (first | assumption | exact ⟨by assumption, by assumption⟩ | go_keep)
      (first
        | (go_at_call 70
           refine (CCp.out _ (by first | exact hE1.trans' (ext_drew _) | exact hE1.trans' ((ext_drew _).trans' (ext_alloc _ _)))).mono ?_
           rintro e wl ⟨gv, rfl, hol, hXl0⟩
           obtain ⟨ga, gc, rfl, _⟩ := hol.roads
           have hXl : Ext w1 wl := by first | exact (ext_drew _).trans' hXl0 | exact ((ext_drew _).trans' (ext_alloc _ _)).trans' hXl0
           have hk0 := (HB1.out.ext hXl).cellv 0 (v := .int .i64 N) rfl
           have hk1 := (HB1.out.ext hXl).cellv 1 (v := .slice a R.length c) rfl
           first
             | (have hA : BlkC wl w1.heap.size #[.int .i64 0, .slice none 0 0] 24 := (BlkC.new w1.drew #[.int .i64 0, .slice none 0 0] 24).ext hXl0
                have ha0 := hA.cellv 0 (v := .int .i64 0) rfl
                have ha1 := hA.cellv 1 (v := .slice none 0 0) rfl
                have hf0 := hA.frozen 0
                have hf1 := hA.frozen 1
                have hal := hA.lt
                have hs := ((HB1.out.ext hXl).other (B' := w1.heap.size) (by omega) 0 (.int .i64 N)).other (B' := w1.heap.size) (by omega) 1 (.slice ga R.length gc)
                have hs0 := hs.cellv 0 (v := .int .i64 N) rfl
                have hs1 := hs.cellv 1 (v := .slice a R.length c) rfl)
             | skip))
    · have hb1 := hXl.size
      have hOl := hol.ext (ext_alloc wl (.cells #[.int .i64 N, .slice ga R.length gc] 24))
      go_wp2_with fail
      go_meet
      case rel => exact ⟨_, _, rfl, hb1, row_young hol (Nat.le_refl _), Lib.hid (BlkC.new wl #[.int .i64 N, .slice ga R.length gc] 24), Lib.hid (hOl.base (ext_drew _).size), hXl.trans' (ext_alloc _ _)⟩
    · have hA2 := hA.net (u := .int .i64 N) (v := .slice ga R.length gc)
      have hO2 : OwnRd wl (w1.heap.size + 1) (.slice ga R.length gc) R := by simpa using hol
      go_wp2_with fail
      go_meet
      case rel => exact ⟨_, _, rfl, Nat.le_refl _, row_away hO2 (by omega), Lib.hid hA2, Lib.hid ((show OwnRd _ (w1.heap.size + 1) (.slice ga R.length gc) R from row_set_other (row_set_other hO2 (row_away hO2 (by omega)) 0 _) (row_away hO2 (by omega)) 1 _).base (by omega)), (hXl.setCell (p := ⟨w1.heap.size, 0, none⟩) (Nat.le_refl _) _).setCell (p := ⟨w1.heap.size, 1, none⟩) (Nat.le_refl _) _⟩
  obtain ⟨x5, gv, rfl, hx5', hnw, HN, HO0, hXx⟩ := hcut
  obtain ⟨ga, gc, rfl, _⟩ := HO0.out.roads
  rename World => w3
  have HO : Hid (OwnRd w3 w1.heap.size (.slice ga R.length gc) (mapTo (tolD node by_) R 0)) := Lib.hid (by rw [mapTo_zero]; exact HO0.out)
  have hzw1 := HZ1.out.lt
  have hs2 := hXx.size
  have n0 := HN.out.cellv 0 (v := .int .i64 N) rfl
  have n1 := HN.out.cellv 1 (v := .slice ga R.length gc) rfl
  have hzn := HN.out.lt
  have HZx := Lib.hid (HZ1.out.ext hXx)
  clear g0 g1 z0 z1 y0 y1 hzz HO0
  have z0 := HZx.out.cellv 0 (v := .int .i64 0) rfl
  have z1 := HZx.out.cellv 1 (v := .slice none 0 0) rfl
  have y0 := HZx.out.frozen 0
  have y1 := HZx.out.frozen 1
  have hzz := HZx.out.lt
  have g0 := (HB1.out.ext hXx).cellv 0 (v := .int .i64 N) rfl
  have g1 := (HB1.out.ext hXx).cellv 1 (v := .slice a R.length c) rfl
  by_cases hR0 : R.length = 0
  case pos =>
    have hE := hE1.trans' hXx
    have HG := Lib.hid (tolErr_good (by_ := by_) HN0.out HNd.out (fun j hj => by omega))
    have HO := Lib.hid (show OwnRd w3 w1.heap.size (.slice ga R.length gc) (R.map (tolD node by_)) from by
      have h := HO.out
      rw [show mapTo (tolD node by_) R 0 = R.map (tolD node by_) by rw [← mapTo_all, hR0]] at h
      exact h)
    have HZ2 := HZx
    have hd : ((R.length : Int) == 0) = true := by simp [hR0]
    clear hR0
    go_wp2_with fail
    have HF := Lib.hid (BlkC.net (u := .int .i64 N) (v := .slice ga R.length gc) HZ2.out)
    have hEF : Ext w ((w3.setCell ⟨w.heap.size + 1, 0, none⟩ (.int .i64 N)).setCell ⟨w.heap.size + 1, 1, none⟩ (.slice ga R.length gc)) := (hE.setCell (p := ⟨w.heap.size + 1, 0, none⟩) (by simp) _).setCell (p := ⟨w.heap.size + 1, 1, none⟩) (by simp) _
    have hOF : OwnRd ((w3.setCell ⟨w.heap.size + 1, 0, none⟩ (.int .i64 N)).setCell ⟨w.heap.size + 1, 1, none⟩ (.slice ga R.length gc)) w1.heap.size (.slice ga R.length gc) (R.map (tolD node by_)) := (HO.out.other (row_away HO.out (by omega)) 0 _).other (row_away HO.out (by omega)) 1 _
    obtain ⟨gf, gcf, hef, hRf⟩ := hOF.roads
    generalize ((w3.setCell ⟨w.heap.size + 1, 0, none⟩ (.int .i64 N)).setCell ⟨w.heap.size + 1, 1, none⟩ (.slice ga R.length gc)) = wf at *
    have c0f := HF.out.cellv 0 (v := .int .i64 N) rfl
    have c1f := HF.out.cellv 1 (v := .slice ga R.length gc) rfl
    refine bodyPost_ret (v := .tuple #[.agg #[.int .i64 N, .slice ga R.length gc], .int .i64 0]) (by simp [results, Try.results52, go_sem, c0f, c1f]) rfl ?_
    rw [HG.out.1, HG.out.2.1, HG.out.2.2]
    simp only [List.length_map, Value.slice.injEq, true_and] at hef
    obtain ⟨rfl, rfl⟩ := hef
    exact ⟨ga, gc, by rw [List.length_map], hRf, hEF⟩
  have hd : ((R.length : Int) == 0) = false := by rw [beq_eq_false_iff_ne]; omega
  clear hR0 z0 z1 y0 y1 hzz
  go_wp2_with fail
  clear n0 n1 hzn
  go_loopw [39] (fun i wr => ∃ k : Nat, k ≤ R.length ∧ i = .int .i64 k ∧ Ext w1 wr ∧ Hid (BlkC wr x5 #[.int .i64 N, .slice ga R.length gc] 24) ∧ Hid (OwnRd wr w1.heap.size (.slice ga R.length gc) (mapTo (tolD node by_) R k)) ∧ Hid (∀ j, (hj : j < R.length) → j < k → tolOk node by_ R[j] = true)) (fun i _ => R.length - (intOf i).toNat)
  case atStart => exact ⟨0, Nat.zero_le _, rfl, hXx, HN, HO, Lib.hid (fun j hj h => by omega)⟩
  case round =>
    obtain ⟨k, hk, rfl, hX, HN, HO, HT⟩ := hrel
    have hE := hE1.trans' hX
    have n0 := HN.out.cellv 0 (v := .int .i64 N) rfl
    have n1 := HN.out.cellv 1 (v := .slice ga R.length gc) rfl
    have hzn := HN.out.lt
    have HZ2 := Lib.hid (HZ1.out.ext hX)
    have z0 := HZ2.out.cellv 0 (v := .int .i64 0) rfl
    have z1 := HZ2.out.cellv 1 (v := .slice none 0 0) rfl
    have y0 := HZ2.out.frozen 0
    have y1 := HZ2.out.frozen 1
    have hzz := HZ2.out.lt
    by_cases hlt : k < R.length
    case neg =>
      obtain rfl : k = R.length := by omega
      rw [mapTo_all] at HO
      have HG := Lib.hid (tolErr_good (by_ := by_) HN0.out HNd.out (fun j hj => HT.out j hj hj))
      go_wp2_with fail
      have HF := Lib.hid (BlkC.net (u := .int .i64 N) (v := .slice ga R.length gc) HZ2.out)
      have hEF : Ext w ((wr.setCell ⟨w.heap.size + 1, 0, none⟩ (.int .i64 N)).setCell ⟨w.heap.size + 1, 1, none⟩ (.slice ga R.length gc)) := (hE.setCell (p := ⟨w.heap.size + 1, 0, none⟩) (by simp) _).setCell (p := ⟨w.heap.size + 1, 1, none⟩) (by simp) _
      have hOF : OwnRd ((wr.setCell ⟨w.heap.size + 1, 0, none⟩ (.int .i64 N)).setCell ⟨w.heap.size + 1, 1, none⟩ (.slice ga R.length gc)) w1.heap.size (.slice ga R.length gc) (R.map (tolD node by_)) := (HO.out.other (row_away HO.out (by omega)) 0 _).other (row_away HO.out (by omega)) 1 _
      obtain ⟨gf, gcf, hef, hRf⟩ := hOF.roads
      generalize ((wr.setCell ⟨w.heap.size + 1, 0, none⟩ (.int .i64 N)).setCell ⟨w.heap.size + 1, 1, none⟩ (.slice ga R.length gc)) = wf at *
      have c0f := HF.out.cellv 0 (v := .int .i64 N) rfl
      have c1f := HF.out.cellv 1 (v := .slice ga R.length gc) rfl
      refine bodyPost_ret (v := .tuple #[.agg #[.int .i64 N, .slice ga R.length gc], .int .i64 0]) (by simp [results, Try.results52, go_sem, c0f, c1f]) rfl ?_
      rw [HG.out.1, HG.out.2.1, HG.out.2.2]
      simp only [List.length_map, Value.slice.injEq, true_and] at hef
      obtain ⟨rfl, rfl⟩ := hef
      exact ⟨ga, gc, by rw [List.length_map], hRf, hEF⟩
    have HL2 := Lib.hid (mapTo_length (tolD node by_) R k)
    have hlm : k < (mapTo (tolD node by_) R k).length := by rw [HL2.out]; exact hlt
    have hok4 : (mapTo (tolD node by_) R k)[k] = R[k] := by
      have := mapTo_at (tolD node by_) R (k := k) hlt
      rw [if_neg (by omega), List.getElem?_eq_getElem hlm] at this
      exact Option.some.inj this
    obtain ⟨g, hgg⟩ : ∃ g, ga = some ⟨g, 0, none⟩ := by
      obtain ⟨g, c', e, _⟩ := HO.out.form (by omega)
      exact ⟨g, by injection e⟩
    subst hgg
    have Hst1 := Lib.hid (mapTo_set (tolD node by_) R hlt)
    have Hsk := Lib.hid (mapTo_skip (f := tolD node by_) hlt)
    have hsr := hX.size
    have hgw : w1.heap.size ≤ g ∧ g < wr.heap.size := by
      obtain ⟨g', c', e, h1, h2⟩ := HO.out.form (by omega)
      injection e with e1
      injection e1 with e1
      injection e1 with e1
      omega
    have hxg : x5 ≠ g := by simpa [Value.ownBlock] using hnw
    have HS : Hid (∀ v, v = tolLn node by_ R[k] → OwnRd (wr.setCell ⟨g, k * 4 + 2, none⟩ (.int .i64 v)) w1.heap.size (.slice (some ⟨g, 0, none⟩) R.length gc) (mapTo (tolD node by_) R (k + 1))) := Lib.hid (fun v hv => by
      have h := HO.out.store hlm 2 (by omega) v (tolD node by_ R[k]) (by rw [hok4, hv]; rfl)
      rw [Hst1.out] at h
      exact h)
    have HBad := Lib.hid (fun h3 : tolOk node by_ R[k] = false => tolErr_bad HN0.out HNd.out hlt h3)
    have HT1 : Hid (tolOk node by_ R[k] = true → ∀ j, (hj : j < R.length) → j < k + 1 → tolOk node by_ R[j] = true) := Lib.hid (fun h j hj hjk => by
      rcases Nat.lt_succ_iff_lt_or_eq.1 hjk with h2 | rfl
      · exact HT.out j hj h2
      · exact h)
    have co := HO.out.cells hlm
    rw [hok4] at co
    have f2 := HO.out.froz (k * 4 + 2)
    have hln := hok.ln k hlt
    have hne := hok.ne k hlt
    obtain ⟨q0, q1, q2, _⟩ := co
    have HK4 := Lib.hid hok4
    clear hok4
    have g0 := (HB1.out.ext hX).cellv 0 (v := .int .i64 N) rfl
    have g1 := (HB1.out.ext hX).cellv 1 (v := .slice a R.length c) rfl
    have hzb := (HB1.out.ext hX).lt
    obtain ⟨b, off, rfl, hb, c1, c2, c3, c4⟩ := hl.ext hE k hlt
    have hXA := ext_alloc wr (.cells #[.int .i64 R[k].fr, .int .i64 R[k].to, .int .i64 R[k].ln, .int .i64 R[k].wd] 55)
    have HBX := Lib.hid (BlkC.new wr #[.int .i64 R[k].fr, .int .i64 R[k].to, .int .i64 R[k].ln, .int .i64 R[k].wd] 55)
    obtain ⟨wo, rfl⟩ : ∃ wo : World, wo = wr := ⟨_, rfl⟩
    have HOa := Lib.hid (HO.out.ext hXA)
    have HNa := Lib.hid (HN.out.ext hXA)
    have HZa := Lib.hid (HZ2.out.ext hXA)
    have hXa := hX.trans' hXA
    have hEa := hE.trans' hXA
    go_upto_region 12 with fail
    clear z0 z1 y0 y1 hzz n0 n1 hzn c1 c2 c3 c4 q0 q1 q2 f2 HS HO HN HZ2 hX hE g0 g1
    generalize hwb : wo.heap.size = xb at *
    have hwb2 : wo.heap.size ≤ xb ∧ xb ≤ wo.heap.size := by omega
    clear hwb
    generalize wo.alloc (.cells #[.int .i64 R[k].fr, .int .i64 R[k].to, .int .i64 R[k].ln, .int .i64 R[k].wd] 55) = wr at *
    have x0 := HBX.out.cellv 0 (v := .int .i64 R[k].fr) rfl
    have x1 := HBX.out.cellv 1 (v := .int .i64 R[k].to) rfl
    have hzx := HBX.out.lt
    have HO := HOa
    have HN := HNa
    have HZ2 := HZa
    have hX := hXa
    have hE := hEa
    have n1 := HN.out.cellv 1 (v := .slice (some ⟨g, 0, none⟩) R.length gc) rfl
    have hzn := HN.out.lt
    have hgw : w1.heap.size ≤ g ∧ g < wr.heap.size := ⟨hgw.1, by have := hXA.size; omega⟩
    have hxg2 : xb ≠ g := by omega
    have z0 := HZ2.out.cellv 0 (v := .int .i64 0) rfl
    have z1 := HZ2.out.cellv 1 (v := .slice none 0 0) rfl
    have y0 := HZ2.out.frozen 0
    have y1 := HZ2.out.frozen 1
    have hzz := HZ2.out.lt
    have co := HO.out.cells hlm
    rw [HK4.out] at co
    have f2 := HO.out.froz (k * 4 + 2)
    obtain ⟨q0, q1, q2, _⟩ := co
    have HSa : Hid (∀ v, v = tolLn node by_ R[k] → OwnRd (wr.setCell ⟨g, k * 4 + 2, none⟩ (.int .i64 v)) w1.heap.size (.slice (some ⟨g, 0, none⟩) R.length gc) (mapTo (tolD node by_) R (k + 1))) := Lib.hid (fun v hv => by
      have h := HO.out.store hlm 2 (by omega) v (tolD node by_ R[k]) (by rw [HK4.out, hv]; rfl)
      rw [Hst1.out] at h
      exact h)
    have HS := HSa
    clear HBX
    clear HK4
    generalize hr : R[k] = r at *
    have Hr := Lib.hid hr
    clear hr
    have Hto : Hid (∀ h : r.to = node, tolLn node by_ r = r.ln + by_) := Lib.hid (fun h => by unfold tolLn; rw [if_pos h])
    have Hfr : Hid (r.to ≠ node → r.fr = node → tolLn node by_ r = r.ln - by_) := Lib.hid (fun h h2 => by unfold tolLn; rw [if_neg h, if_pos h2])
    have Hno : Hid (r.to ≠ node → r.fr ≠ node → tolD node by_ r = r ∧ tolOk node by_ r = true) := Lib.hid (fun h h2 => by
      have ht : touch node r = false := by simp [touch, h, h2]
      exact ⟨tol_same ht, by simp [tolOk, ht]⟩)
    have Hb1 : Hid ((r.to = node ∨ r.fr = node) → withinB by_ (-99) 99 = false → tolOk node by_ r = false) := Lib.hid (fun h h2 => by
      have ht : touch node r = true := by rcases h with h | h <;> simp [touch, h]
      simp [tolOk, ht, h2])
    have Hb2 : Hid ((r.to = node ∨ r.fr = node) → withinB by_ (-99) 99 = true → tolOk node by_ r = withinB (tolLn node by_ r) 0 99) := Lib.hid (fun h h2 => by
      have ht : touch node r = true := by rcases h with h | h <;> simp [touch, h]
      simp [tolOk, ht, h2])
    have hto0 : tolOk node by_ r = true ∨ tolOk node by_ r = false := by cases tolOk node by_ r <;> simp
    obtain ⟨fr, tt, ln, wd⟩ := r
    simp only at *
    by_cases ht : tt = node
    case neg =>
      by_cases hf : fr = node
      case neg =>
        have hd1 : (tt != node) = true := by simp [ht]
        have hd2 : (fr != node) = true := by simp [hf]
        obtain ⟨m1, m2⟩ := Hno.out ht hf
        have M1 := Lib.hid (Hsk.out m1)
        have M2 := Lib.hid (HT1.out m2)
        clear m1 m2 ht hf
        go_wp2_with fail
        go_roundw
        case rel => exact ⟨k + 1, by omega, by go_num, hX, HN, Lib.hid (by rw [M1.out]; exact HO.out), M2⟩
        case measure => simp [intOf]; omega
      have hd1 : (tt != node) = true := by simp [ht]
      have hd2 : (fr != node) = false := by simp [hf]
      have hd3 : (tt == node) = false := by simp [ht]
      have HV := Lib.hid (Hfr.out ht hf)
      have K1 := Lib.hid (Hb1.out (.inr hf))
      have K2 := Lib.hid (Hb2.out (.inr hf))
      clear ht hf
      go_wp2_with fail
      refine (f64_c _ _ _ _).mono ?_
      rintro e w9 ⟨rfl, rfl⟩
      rcases Bool.eq_false_or_eq_true (withinB by_ (-99) 99) with h1 | h1
      case inr =>
        have HC := Lib.hid (HBad.out (K1.out h1))
        rw [h1]
        clear h1
        go_wp2_with fail
        have HF := Lib.hid (BlkC.net (u := .int .i64 0) (v := .slice none 0 0) HZ2.out)
        have hEF : Ext w ((wr.setCell ⟨w.heap.size + 1, 0, none⟩ (.int .i64 0)).setCell ⟨w.heap.size + 1, 1, none⟩ (.slice none 0 0)) := (hE.setCell (p := ⟨w.heap.size + 1, 0, none⟩) (by simp) _).setCell (p := ⟨w.heap.size + 1, 1, none⟩) (by simp) _
        generalize ((wr.setCell ⟨w.heap.size + 1, 0, none⟩ (.int .i64 0)).setCell ⟨w.heap.size + 1, 1, none⟩ (.slice none 0 0)) = wf at *
        have c0f := HF.out.cellv 0 (v := .int .i64 0) rfl
        have c1f := HF.out.cellv 1 (v := .slice none 0 0) rfl
        refine bodyPost_ret (v := .tuple #[.agg #[.int .i64 0, .slice none 0 0], .int .i64 1]) (by simp [results, Try.results52, go_sem, c0f, c1f]) rfl ?_
        rw [HC.out.1, HC.out.2.1, HC.out.2.2]
        exact ⟨none, 0, rfl, roads_nil _ _, hEF⟩
      have HW := Lib.hid (K2.out h1)
      have hby := withinB_iff.1 h1
      rw [h1]
      clear h1
      have HS2 := Lib.hid (HS.out (ln - by_) HV.out.symm)
      have HZ3 := Lib.hid (HZ2.out.other (B' := g) (by omega) (k * 4 + 2) (.int .i64 (ln - by_)))
      have HN3 := Lib.hid (HN.out.other (B' := g) hxg (k * 4 + 2) (.int .i64 (ln - by_)))
      have hX3 : Ext w1 (wr.setCell ⟨g, k * 4 + 2, none⟩ (.int .i64 (ln - by_))) := hX.setCell (p := ⟨g, k * 4 + 2, none⟩) hgw.1 _
      have hE3 := hE1.trans' hX3
      have z0 := HZ3.out.cellv 0 (v := .int .i64 0) rfl
      have z1 := HZ3.out.cellv 1 (v := .slice none 0 0) rfl
      have y0 := HZ3.out.frozen 0
      have y1 := HZ3.out.frozen 1
      have hzz3 := HZ3.out.lt
      have n3 := HN3.out.cellv 1 (v := .slice (some ⟨g, 0, none⟩) R.length gc) rfl
      have hzn3 := HN3.out.lt
      rw [HV.out] at HW
      go_wp2_with fail
      generalize wr.setCell ⟨g, k * 4 + 2, none⟩ (.int .i64 (ln - by_)) = wz at *
      refine (f64_c _ _ _ _).mono ?_
      rintro e w9 ⟨rfl, rfl⟩
      rcases Bool.eq_false_or_eq_true (withinB (ln - by_) 0 99) with h1 | h1
      case inr =>
        rw [h1] at HW
        have HC := Lib.hid (HBad.out HW.out)
        rw [h1]
        clear h1
        go_wp2_with fail
        have HF := Lib.hid (BlkC.net (u := .int .i64 0) (v := .slice none 0 0) HZ3.out)
        have hEF : Ext w ((wz.setCell ⟨w.heap.size + 1, 0, none⟩ (.int .i64 0)).setCell ⟨w.heap.size + 1, 1, none⟩ (.slice none 0 0)) := (hE3.setCell (p := ⟨w.heap.size + 1, 0, none⟩) (by simp) _).setCell (p := ⟨w.heap.size + 1, 1, none⟩) (by simp) _
        generalize ((wz.setCell ⟨w.heap.size + 1, 0, none⟩ (.int .i64 0)).setCell ⟨w.heap.size + 1, 1, none⟩ (.slice none 0 0)) = wf at *
        have c0f := HF.out.cellv 0 (v := .int .i64 0) rfl
        have c1f := HF.out.cellv 1 (v := .slice none 0 0) rfl
        refine bodyPost_ret (v := .tuple #[.agg #[.int .i64 0, .slice none 0 0], .int .i64 1]) (by simp [results, Try.results52, go_sem, c0f, c1f]) rfl ?_
        rw [HC.out.1, HC.out.2.1, HC.out.2.2]
        exact ⟨none, 0, rfl, roads_nil _ _, hEF⟩
      rw [h1] at HW
      have M2 := Lib.hid (HT1.out HW.out)
      rw [h1]
      clear h1
      go_wp2_with fail
      go_roundw
      case rel => exact ⟨k + 1, by omega, by go_num, hX3, HN3, HS2, M2⟩
      case measure => simp [intOf]; omega
    case pos =>
      have hd1 : (tt != node) = false := by simp [ht]
      have hd2 : (fr != node) = true := by simp; omega
      have hd3 : (tt == node) = true := by simp [ht]
      have HV := Lib.hid (Hto.out ht)
      have K1 := Lib.hid (Hb1.out (.inl ht))
      have K2 := Lib.hid (Hb2.out (.inl ht))
      clear ht
      go_wp2_with fail
      refine (f64_c _ _ _ _).mono ?_
      rintro e w9 ⟨rfl, rfl⟩
      rcases Bool.eq_false_or_eq_true (withinB by_ (-99) 99) with h1 | h1
      case inr =>
        have HC := Lib.hid (HBad.out (K1.out h1))
        rw [h1]
        clear h1
        go_wp2_with fail
        have HF := Lib.hid (BlkC.net (u := .int .i64 0) (v := .slice none 0 0) HZ2.out)
        have hEF : Ext w ((wr.setCell ⟨w.heap.size + 1, 0, none⟩ (.int .i64 0)).setCell ⟨w.heap.size + 1, 1, none⟩ (.slice none 0 0)) := (hE.setCell (p := ⟨w.heap.size + 1, 0, none⟩) (by simp) _).setCell (p := ⟨w.heap.size + 1, 1, none⟩) (by simp) _
        generalize ((wr.setCell ⟨w.heap.size + 1, 0, none⟩ (.int .i64 0)).setCell ⟨w.heap.size + 1, 1, none⟩ (.slice none 0 0)) = wf at *
        have c0f := HF.out.cellv 0 (v := .int .i64 0) rfl
        have c1f := HF.out.cellv 1 (v := .slice none 0 0) rfl
        refine bodyPost_ret (v := .tuple #[.agg #[.int .i64 0, .slice none 0 0], .int .i64 1]) (by simp [results, Try.results52, go_sem, c0f, c1f]) rfl ?_
        rw [HC.out.1, HC.out.2.1, HC.out.2.2]
        exact ⟨none, 0, rfl, roads_nil _ _, hEF⟩
      have HW := Lib.hid (K2.out h1)
      have hby := withinB_iff.1 h1
      rw [h1]
      clear h1
      have HS2 := Lib.hid (HS.out (ln + by_) HV.out.symm)
      have HZ3 := Lib.hid (HZ2.out.other (B' := g) (by omega) (k * 4 + 2) (.int .i64 (ln + by_)))
      have HN3 := Lib.hid (HN.out.other (B' := g) hxg (k * 4 + 2) (.int .i64 (ln + by_)))
      have hX3 : Ext w1 (wr.setCell ⟨g, k * 4 + 2, none⟩ (.int .i64 (ln + by_))) := hX.setCell (p := ⟨g, k * 4 + 2, none⟩) hgw.1 _
      have hE3 := hE1.trans' hX3
      have z0 := HZ3.out.cellv 0 (v := .int .i64 0) rfl
      have z1 := HZ3.out.cellv 1 (v := .slice none 0 0) rfl
      have y0 := HZ3.out.frozen 0
      have y1 := HZ3.out.frozen 1
      have hzz3 := HZ3.out.lt
      have n3 := HN3.out.cellv 1 (v := .slice (some ⟨g, 0, none⟩) R.length gc) rfl
      have hzn3 := HN3.out.lt
      rw [HV.out] at HW
      go_wp2_with fail
      generalize wr.setCell ⟨g, k * 4 + 2, none⟩ (.int .i64 (ln + by_)) = wz at *
      refine (f64_c _ _ _ _).mono ?_
      rintro e w9 ⟨rfl, rfl⟩
      rcases Bool.eq_false_or_eq_true (withinB (ln + by_) 0 99) with h1 | h1
      case inr =>
        rw [h1] at HW
        have HC := Lib.hid (HBad.out HW.out)
        rw [h1]
        clear h1
        go_wp2_with fail
        have HF := Lib.hid (BlkC.net (u := .int .i64 0) (v := .slice none 0 0) HZ3.out)
        have hEF : Ext w ((wz.setCell ⟨w.heap.size + 1, 0, none⟩ (.int .i64 0)).setCell ⟨w.heap.size + 1, 1, none⟩ (.slice none 0 0)) := (hE3.setCell (p := ⟨w.heap.size + 1, 0, none⟩) (by simp) _).setCell (p := ⟨w.heap.size + 1, 1, none⟩) (by simp) _
        generalize ((wz.setCell ⟨w.heap.size + 1, 0, none⟩ (.int .i64 0)).setCell ⟨w.heap.size + 1, 1, none⟩ (.slice none 0 0)) = wf at *
        have c0f := HF.out.cellv 0 (v := .int .i64 0) rfl
        have c1f := HF.out.cellv 1 (v := .slice none 0 0) rfl
        refine bodyPost_ret (v := .tuple #[.agg #[.int .i64 0, .slice none 0 0], .int .i64 1]) (by simp [results, Try.results52, go_sem, c0f, c1f]) rfl ?_
        rw [HC.out.1, HC.out.2.1, HC.out.2.2]
        exact ⟨none, 0, rfl, roads_nil _ _, hEF⟩
      rw [h1] at HW
      have M2 := Lib.hid (HT1.out HW.out)
      rw [h1]
      clear h1
      go_wp2_with fail
      go_roundw
      case rel => exact ⟨k + 1, by omega, by go_num, hX3, HN3, HS2, M2⟩
      case measure => simp [intOf]; omega
end Go.Proofs.Ytbejgbflipoboaa
