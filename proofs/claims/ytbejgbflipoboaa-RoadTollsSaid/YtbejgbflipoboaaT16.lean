/- Contracts of roads: Clone of roads, Copy, Same, Reverse of both. -/
import Derived.Deep.Cut
import Derived.Deep.CutRange
import Derived.Deep.DeepCutAuto
import Derived.Deep.RegionWith
import Derived.Deep.RegionHeld3
import Derived.RegionTactic
import Derived.BigRegion
import Derived.Test.YtbejgbflipoboaaT14
import Derived.Test.YtbejgbflipoboaaRJ
import Derived.Test.YtbejgbflipoboaaOwnRd
namespace Go.Proofs.Ytbejgbflipoboaa
open Go.RowKit
attribute [local go_sem] GW.cell
theorem info55 : (Try.prog.info? 55).map (fun i => (i.zero, i.size, i.bytes)) = some (some (.agg #[.int .i64 0, .int .i64 0, .int .i64 0, .int .i64 0]), 4, 32) := by kernel_rfl
set_option maxHeartbeats 1000000 in
theorem f70_c (a : Option Addr) (n c : Nat) (l : List Road) (w : World) (hl : Roads w a l) (hn : l.length = n) (hlen : n ≤ 1000000) :
    Calls Try.prog 70 #[.slice a n c] w fun e w' => ∃ v, e = .returned v ∧ OwnRd w' w.heap.size v l ∧ Ext w w' := by
  subst hn
  have hnil := fun (w : World) => Lib.run_eql_slice_nil (P := Try.prog) w 22 55 a l.length c 0 0 Try.underlying22
  obtain ⟨i0, hi⟩ := info_parts info55
  have Hi := Lib.hid hi
  clear hi
  cases a with
  | none =>
    have h0 : l = [] := by
      cases l with
      | nil => rfl
      | cons s l => obtain ⟨b, off, h, _⟩ := hl 0 (by simp); cases h
    have H0 := Lib.hid h0
    clear h0 hl Hi
    generalize hn : l.length = n at *
    have Hn := Lib.hid hn
    clear hn
    go_enter Try.func70, Try.ntmps70
    go_wp2_with fail
    go_ret
    refine ⟨_, rfl, ?_, Below.refl _ _⟩
    unfold OwnRd
    rw [H0.out]
    exact World.ownsRow_nil _ _ _ _
  | some ad =>
    have hrow := row_empty w 55 4
    have hr := reads_roads (hl.ext (ext_alloc w (.cells #[] 55)))
    have Hrow := Lib.hid hrow
    have Hr := Lib.hid hr
    clear hrow hr
    go_enter Try.func70, Try.ntmps70
    go_wp2_with (at_builtin; refine wpList_append_any _ rfl (.tmp 5) (.tmp 6) 22 rfl w.heap.size 55 i0 _ 4 32 Try.underlying22 Hi.out.1 Hi.out.2.1 Hi.out.2.2.1 Hi.out.2.2.2 rfl (by omega) (.slice (some ⟨w.heap.size, 0, none⟩) 0 0) 0 [] rfl Hrow.out _ (some ad) l.length c (roadV l) rfl Hr.out (roadV_one_cell l) (by unfold maxLen; omega) (by omega) (by simp) ?_; intro v' w1 hown hgrow hat)
    go_ret
    exact ⟨_, rfl, by unfold OwnRd; simpa using hown, ext_grow (ext_alloc _ _) Hrow.out (Nat.le_refl _) hgrow⟩
/-- what a call hands back that makes a net and an error -/
def RetNet (N' : Int) (L : List Road) (err : Int) (w : World) (e : Ending) (w' : World) : Prop := ∃ a c, e = .returned (.tuple #[.agg #[.int .i64 N', .slice a L.length c], .int .i64 err]) ∧ Roads w' a L ∧ Ext w w'
theorem BlkC.net {W : World} {z : Nat} {x y u v : Value} {T : TypeId} (h : BlkC W z #[x, y] T) : BlkC ((W.setCell ⟨z, 0, none⟩ u).setCell ⟨z, 1, none⟩ v) z #[u, v] T := by
  have := (h.set 0 u).set 1 v
  simpa using this
theorem row_young {W : World} {base : Nat} {e : TypeId} {size k : Nat} {v : Value} {xs : List Value} (h : W.ownsRow base e size v k xs) {B : Nat} (hB : W.heap.size ≤ B) : some B ≠ v.ownBlock := by
  rcases h.2 with ⟨rfl, _⟩ | ⟨g, cap, cur, rfl, hb, hg, _⟩
  · simp [Value.ownBlock]
  · intro e2
    have : B = g := by simpa [Value.ownBlock] using e2
    have := (Array.getElem?_eq_some_iff.1 hg).1
    omega
theorem roads_nil (w : World) (a : Option Addr) : Roads w a [] := fun j hj => by simp at hj
set_option maxRecDepth 20000 in
set_option maxHeartbeats 8000000 in
theorem f35_c (N : Int) (a : Option Addr) (n c : Nat) (R : List Road) (w : World) (hl : Roads w a R) (hn : R.length = n) (hlen : n ≤ 1000000) :
    Calls Try.prog 35 #[.agg #[.int .i64 N, .slice a n c]] w (RetNet (revN N R) (revL N R) (netErr N R) w) := by
  subst hn
  have C22 := Lib.hid (fun W (hW : Ext w W) => f22_c N a R.length c R W (hl.ext hW) rfl (by omega))
  have C70 := Lib.hid (fun W (hW : Ext w W) => f70_c a R.length c R W (hl.ext hW) rfl hlen)
  have hE0 := ext_alloc w (.cells #[.int .i64 N, .slice a R.length c] 24)
  have HB := Lib.hid (BlkC.new w #[.int .i64 N, .slice a R.length c] 24)
  have hz := HB.out.lt
  go_enter Try.func35, Try.ntmps35
  go_wp2_with fail
  have hEz : Ext w ((w.alloc (.cells #[.int .i64 N, .slice a R.length c] 24)).alloc (.cells #[.int .i64 0, .slice none 0 0] 24)) := hE0.trans' (ext_alloc _ _)
  have HZ := Lib.hid (BlkC.new (w.alloc (.cells #[.int .i64 N, .slice a R.length c] 24)) #[.int .i64 0, .slice none 0 0] 24)
  have HB0 := Lib.hid (HB.out.alloc (.cells #[.int .i64 0, .slice none 0 0] 24))
  have hzz : (w.alloc (.cells #[.int .i64 N, .slice a R.length c] 24)).heap.size = w.heap.size + 1 := by simp
  rw [hzz] at HZ
  clear hzz HB hz
  have hz := HZ.out.lt
  generalize (w.alloc (.cells #[.int .i64 N, .slice a R.length c] 24)).alloc (.cells #[.int .i64 0, .slice none 0 0] 24) = w0 at *
  refine (C22.out _ hEz).mono ?_
  rintro e w1 ⟨rfl, hX1⟩
  have hE1 := hEz.trans' hX1
  have HB1 := Lib.hid (HB0.out.ext hX1)
  have HZ1 := Lib.hid (HZ.out.ext hX1)
  have g0 := HB1.out.cellv 0 (v := .int .i64 N) rfl
  have g1 := HB1.out.cellv 1 (v := .slice a R.length c) rfl
  have z0 := HZ1.out.cellv 0 (v := .int .i64 0) rfl
  have z1 := HZ1.out.cellv 1 (v := .slice none 0 0) rfl
  have y0 := HZ1.out.frozen 0
  have y1 := HZ1.out.frozen 1
  have hz1 := HZ1.out.lt
  by_cases h0 : netErr N R = 0
  case neg =>
    have hb : (netErr N R != 0) = true := by simp [h0]
    have HC : Hid (revN N R = 0 ∧ revL N R = []) := Lib.hid (by unfold revN revL; simp [h0])
    clear h0
    generalize hEE : netErr N R = E at *
    clear hEE
    go_wp2_with fail
    have HF := Lib.hid (BlkC.net (u := .int .i64 0) (v := .slice none 0 0) HZ1.out)
    have hEF : Ext w ((w1.setCell ⟨w.heap.size + 1, 0, none⟩ (.int .i64 0)).setCell ⟨w.heap.size + 1, 1, none⟩ (.slice none 0 0)) := (hE1.setCell (p := ⟨w.heap.size + 1, 0, none⟩) (by simp) _).setCell (p := ⟨w.heap.size + 1, 1, none⟩) (by simp) _
    generalize ((w1.setCell ⟨w.heap.size + 1, 0, none⟩ (.int .i64 0)).setCell ⟨w.heap.size + 1, 1, none⟩ (.slice none 0 0)) = wf at *
    have c0 := HF.out.cellv 0 (v := .int .i64 0) rfl
    have c1 := HF.out.cellv 1 (v := .slice none 0 0) rfl
    refine bodyPost_ret (v := .tuple #[.agg #[.int .i64 0, .slice none 0 0], .int .i64 E]) (by simp [results, Try.results35, go_sem, c0, c1]) rfl ?_
    rw [HC.out.1, HC.out.2]
    exact ⟨none, 0, rfl, roads_nil _ _, hEF⟩
  have HC : Hid (revN N R = N ∧ revL N R = R.map revD) := Lib.hid (by unfold revN revL; simp [h0])
  have hok := netErr_ok h0
  have HE0 := Lib.hid h0
  rw [h0]
  clear h0
  go_wp2_with fail
  go_cut [5] from 14 to 19 (fun v5 wx => ∃ x5 gv, v5 = .pointer (some ⟨x5, 0, none⟩) ∧ w1.heap.size ≤ x5 ∧ some x5 ≠ gv.ownBlock ∧ Hid (BlkC wx x5 #[.int .i64 N, gv] 24) ∧ Hid (OwnRd wx w1.heap.size gv R) ∧ Ext w1 wx)
  case first =>
    go_region_held3 (fun w' => w'.cell? ⟨w.heap.size, 0, none⟩ = some (.int .i64 N) ∧ w'.cell? ⟨w.heap.size, 1, none⟩ = some (.slice a R.length c)) (first | assumption | exact ⟨by assumption, by assumption⟩ | go_keep)
      (first
        | (go_at_call 70
           refine (C70.out _ (by first | exact hE1.trans' (ext_drew _) | exact hE1.trans' ((ext_drew _).trans' (ext_alloc _ _)))).mono ?_
           rintro e wl ⟨gv, rfl, hol, hXl0⟩
           obtain ⟨ga, gc, rfl, _⟩ := hol.roads
           have hXl : Ext w1 wl := by first | exact (ext_drew _).trans' hXl0 | exact ((ext_drew _).trans' (ext_alloc _ _)).trans' hXl0
           have hk0 := (HB1.out.ext hXl).cellv 0 (v := .int .i64 N) rfl
           have hk1 := (HB1.out.ext hXl).cellv 1 (v := .slice a R.length c) rfl
           first
             | (have hA : BlkC wl w1.heap.size #[.int .i64 0, .slice none 0 0] 24 := (BlkC.new w1.drew #[.int .i64 0, .slice none 0 0] 24).ext hXl0
                have ha0 := hA.cellv 0 (v := .int .i64 0) rfl
                have ha1 := hA.cellv 1 (v := .slice none 0 0) rfl
                have hf0 := hA.frozen 0
                have hf1 := hA.frozen 1
                have hal := hA.lt
                have hs := ((HB1.out.ext hXl).other (B' := w1.heap.size) (by omega) 0 (.int .i64 N)).other (B' := w1.heap.size) (by omega) 1 (.slice ga R.length gc)
                have hs0 := hs.cellv 0 (v := .int .i64 N) rfl
                have hs1 := hs.cellv 1 (v := .slice a R.length c) rfl)
             | skip))
    · have hb1 := hXl.size
      have hOl := hol.ext (ext_alloc wl (.cells #[.int .i64 N, .slice ga R.length gc] 24))
      go_wp2_with fail
      go_meet
      case rel => exact ⟨_, _, rfl, hb1, row_young hol (Nat.le_refl _), Lib.hid (BlkC.new wl #[.int .i64 N, .slice ga R.length gc] 24), Lib.hid (hOl.base (ext_drew _).size), hXl.trans' (ext_alloc _ _)⟩
    · have hA2 := hA.net (u := .int .i64 N) (v := .slice ga R.length gc)
      have hO2 : OwnRd wl (w1.heap.size + 1) (.slice ga R.length gc) R := by simpa using hol
      go_wp2_with fail
      go_meet
      case rel => exact ⟨_, _, rfl, Nat.le_refl _, row_away hO2 (by omega), Lib.hid hA2, Lib.hid ((show OwnRd _ (w1.heap.size + 1) (.slice ga R.length gc) R from row_set_other (row_set_other hO2 (row_away hO2 (by omega)) 0 _) (row_away hO2 (by omega)) 1 _).base (by omega)), (hXl.setCell (p := ⟨w1.heap.size, 0, none⟩) (Nat.le_refl _) _).setCell (p := ⟨w1.heap.size, 1, none⟩) (Nat.le_refl _) _⟩
  case rest =>
    obtain ⟨x5, gv, rfl, hx5, hx6, HN, HO, hX2⟩ := hcut
    have hE2 := hE1.trans' hX2
    have hY2 := hX1.trans' hX2
    have HO2 := HO
    rw [← mapTo_zero revD R] at HO2
    have hzw1 := HZ1.out.lt
    clear g0 g1 z0 z1 y0 y1 hz1
    have g0 := (HB1.out.ext hX2).cellv 0 (v := .int .i64 N) rfl
    have g1 := (HB1.out.ext hX2).cellv 1 (v := .slice a R.length c) rfl
    have hz2 := (HB1.out.ext hX2).lt
    obtain ⟨ga, gc, rfl, _⟩ := HO.out.roads
    have hgs := hX2.size
    go_wp2_with fail
    go_loopw [23] (fun i wr => ∃ k : Nat, k ≤ R.length ∧ i = .int .i64 k ∧ Ext w1 wr ∧ Hid (BlkC wr x5 #[.int .i64 N, .slice ga R.length gc] 24) ∧ Hid (OwnRd wr w1.heap.size (.slice ga R.length gc) (mapTo revD R k))) (fun i _ => R.length - (intOf i).toNat)
    case atStart => exact ⟨0, Nat.zero_le _, rfl, hX2, HN, HO2⟩
    case round =>
      obtain ⟨k, hk, rfl, hX, HN, HO⟩ := hrel
      have hE := hE1.trans' hX
      by_cases hlt : k < R.length
      case neg =>
        obtain rfl : k = R.length := by omega
        rw [mapTo_all] at HO
        have n0 := HN.out.cellv 0 (v := .int .i64 N) rfl
        have n1 := HN.out.cellv 1 (v := .slice ga R.length gc) rfl
        have hzn := HN.out.lt
        have HZ2 := Lib.hid (HZ1.out.ext hX)
        have z0 := HZ2.out.cellv 0 (v := .int .i64 0) rfl
        have z1 := HZ2.out.cellv 1 (v := .slice none 0 0) rfl
        have y0 := HZ2.out.frozen 0
        have y1 := HZ2.out.frozen 1
        have hzz := HZ2.out.lt
        go_wp2_with fail
        have HF := Lib.hid (BlkC.net (u := .int .i64 N) (v := .slice ga R.length gc) HZ2.out)
        have hEF : Ext w ((wr.setCell ⟨w.heap.size + 1, 0, none⟩ (.int .i64 N)).setCell ⟨w.heap.size + 1, 1, none⟩ (.slice ga R.length gc)) := (hE.setCell (p := ⟨w.heap.size + 1, 0, none⟩) (by simp) _).setCell (p := ⟨w.heap.size + 1, 1, none⟩) (by simp) _
        have hOF : OwnRd ((wr.setCell ⟨w.heap.size + 1, 0, none⟩ (.int .i64 N)).setCell ⟨w.heap.size + 1, 1, none⟩ (.slice ga R.length gc)) w1.heap.size (.slice ga R.length gc) (R.map revD) := (HO.out.other (row_away HO.out (by omega)) 0 _).other (row_away HO.out (by omega)) 1 _
        obtain ⟨gf, gcf, hef, hRf⟩ := hOF.roads
        generalize ((wr.setCell ⟨w.heap.size + 1, 0, none⟩ (.int .i64 N)).setCell ⟨w.heap.size + 1, 1, none⟩ (.slice ga R.length gc)) = wf at *
        have c0 := HF.out.cellv 0 (v := .int .i64 N) rfl
        have c1 := HF.out.cellv 1 (v := .slice ga R.length gc) rfl
        refine bodyPost_ret (v := .tuple #[.agg #[.int .i64 N, .slice ga R.length gc], .int .i64 0]) (by simp [results, Try.results35, go_sem, c0, c1]) rfl ?_
        rw [HC.out.1, HC.out.2]
        simp only [List.length_map, Value.slice.injEq, true_and] at hef
        obtain ⟨rfl, rfl⟩ := hef
        exact ⟨ga, gc, by rw [List.length_map, HE0.out], hRf, hEF⟩
      have HL2 := Lib.hid (mapTo_length revD R k)
      have hlm : k < (mapTo revD R k).length := by rw [HL2.out]; exact hlt
      have hok4 : (mapTo revD R k)[k] = R[k] := by
        have := mapTo_at revD R (k := k) hlt
        rw [if_neg (by omega), List.getElem?_eq_getElem hlm] at this
        exact Option.some.inj this
      obtain ⟨g, hgg⟩ : ∃ g, ga = some ⟨g, 0, none⟩ := by
        obtain ⟨g, c', e, _⟩ := HO.out.form (by omega)
        exact ⟨g, by injection e⟩
      subst hgg
      have Hst1 := Lib.hid (mapTo_set revD R hlt)
      have g0 := (HB1.out.ext hX).cellv 0 (v := .int .i64 N) rfl
      have g1 := (HB1.out.ext hX).cellv 1 (v := .slice a R.length c) rfl
      obtain ⟨b, off, rfl, hb, c1, c2, c3, c4⟩ := hl.ext hE k hlt
      have hXA := ext_alloc wr (.cells #[.int .i64 R[k].fr, .int .i64 R[k].to, .int .i64 R[k].ln, .int .i64 R[k].wd] 55)
      have HT := Lib.hid (BlkC.new wr #[.int .i64 R[k].fr, .int .i64 R[k].to, .int .i64 R[k].ln, .int .i64 R[k].wd] 55)
      have HNA := Lib.hid (HN.out.ext hXA)
      have HOA := Lib.hid (HO.out.ext hXA)
      have hEA := hE.trans' hXA
      have hXA2 := hX.trans' hXA
      have hsr := hX.size
      have hgw : w1.heap.size ≤ g ∧ g < wr.heap.size := by
        obtain ⟨g', c', e, h1, h2⟩ := HO.out.form (by omega)
        injection e with e1
        injection e1 with e1
        injection e1 with e1
        omega
      have hxg : x5 ≠ g := by simpa [Value.ownBlock] using hx6
      have HS1 : Hid (∀ W, OwnRd W w1.heap.size (.slice (some ⟨g, 0, none⟩) R.length gc) (mapTo revD R k) → OwnRd ((W.setCell ⟨g, k * 4, none⟩ (.int .i64 R[k].to)).setCell ⟨g, k * 4 + 1, none⟩ (.int .i64 R[k].fr)) w1.heap.size (.slice (some ⟨g, 0, none⟩) R.length gc) (mapTo revD R (k + 1))) := Lib.hid (fun W h => by
        have h1 := h.store hlm 0 (by omega) R[k].to ⟨R[k].to, R[k].to, R[k].ln, R[k].wd⟩ (by rw [hok4]; rfl)
        have h2 := h1.store (k := k) (by simpa using hlm) 1 (by omega) R[k].fr (revD R[k]) (by simp [revD])
        rw [List.set_set, Hst1.out] at h2
        exact h2)
      have co := HOA.out.cells hlm
      rw [hok4] at co
      have f0 := HOA.out.froz (k * 4)
      have f1 := HOA.out.froz (k * 4 + 1)
      go_wp2_with fail
      generalize hW : wr.alloc (.cells #[.int .i64 R[k].fr, .int .i64 R[k].to, .int .i64 R[k].ln, .int .i64 R[k].wd] 55) = wa at *
      clear hW c1 c2 c3 c4 g0 g1
      have n1 := HNA.out.cellv 1 (v := .slice (some ⟨g, 0, none⟩) R.length gc) rfl
      have t0 := HT.out.cellv 0 (v := .int .i64 R[k].fr) rfl
      have t1 := HT.out.cellv 1 (v := .int .i64 R[k].to) rfl
      have hzt := HT.out.lt
      have hzn := HNA.out.lt
      obtain ⟨q0, q1, _, _⟩ := co
      clear hok4 hlm
      generalize R[k].fr = fr at *
      generalize R[k].to = tt at *
      generalize R[k].ln = ln at *
      generalize R[k].wd = wd at *
      go_region
      have HOf := Lib.hid (HS1.out wa HOA.out)
      have HNf := Lib.hid ((HNA.out.other (B' := g) hxg (k * 4) (.int .i64 tt)).other (B' := g) hxg (k * 4 + 1) (.int .i64 fr))
      have hXf := (hXA2.setCell (p := ⟨g, k * 4, none⟩) hgw.1 (.int .i64 tt)).setCell (p := ⟨g, k * 4 + 1, none⟩) hgw.1 (.int .i64 fr)
      generalize ((wa.setCell ⟨g, k * 4, none⟩ (.int .i64 tt)).setCell ⟨g, k * 4 + 1, none⟩ (.int .i64 fr)) = wz at *
      go_wp2_with fail
      go_roundw
      case rel => exact ⟨k + 1, by omega, by go_num, Ext.trans' hXf (ext_drew _), Lib.hid (HNf.out.ext (ext_drew _)), Lib.hid (HOf.out.ext (ext_drew _))⟩
      case measure => simp [intOf]; omega
end Go.Proofs.Ytbejgbflipoboaa
