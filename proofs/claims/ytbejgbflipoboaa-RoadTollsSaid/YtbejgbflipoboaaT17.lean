/- Contracts of roads: Copy, Same, Reverse of the reference. -/
import Derived.Test.YtbejgbflipoboaaT16
namespace Go.Proofs.Ytbejgbflipoboaa
open Go.RowKit
attribute [local go_sem] GW.cell
/-- what a call hands back that makes a net -/
def RetN (N' : Int) (L : List Road) (w : World) (e : Ending) (w' : World) : Prop := ∃ v, e = .returned (.agg #[.int .i64 N', v]) ∧ OwnRd w' w.heap.size v L ∧ Ext w w'
set_option maxRecDepth 20000 in
set_option maxHeartbeats 8000000 in
theorem f51_c (N : Int) (a : Option Addr) (n c : Nat) (R : List Road) (w : World) (hl : Roads w a R) (hn : R.length = n) (hlen : n ≤ 1000000) :
    Calls Try.prog 51 #[.agg #[.int .i64 N, .slice a n c]] w (RetN N R w) := by
  subst hn
  obtain ⟨i0, hi⟩ := info_parts info55
  have Hi := Lib.hid hi
  clear hi
  have hE0 := ext_alloc w (.cells #[.int .i64 N, .slice a R.length c] 24)
  have HB := Lib.hid (BlkC.new w #[.int .i64 N, .slice a R.length c] 24)
  go_enter Try.func51, Try.ntmps51
  go_wp2_with fail
  have hEz : Ext w ((w.alloc (.cells #[.int .i64 N, .slice a R.length c] 24)).alloc (.cells #[.int .i64 0, .slice none 0 0] 24)) := hE0.trans' (ext_alloc _ _)
  have HZ := Lib.hid (BlkC.new (w.alloc (.cells #[.int .i64 N, .slice a R.length c] 24)) #[.int .i64 0, .slice none 0 0] 24)
  have HB0 := Lib.hid (HB.out.alloc (.cells #[.int .i64 0, .slice none 0 0] 24))
  have hzz : (w.alloc (.cells #[.int .i64 N, .slice a R.length c] 24)).heap.size = w.heap.size + 1 := by simp
  rw [hzz] at HZ
  clear hzz HB
  have hz := HZ.out.lt
  generalize (w.alloc (.cells #[.int .i64 N, .slice a R.length c] 24)).alloc (.cells #[.int .i64 0, .slice none 0 0] 24) = w0 at *
  have g0 := HB0.out.cellv 0 (v := .int .i64 N) rfl
  have g1 := HB0.out.cellv 1 (v := .slice a R.length c) rfl
  have z0 := HZ.out.cellv 0 (v := .int .i64 0) rfl
  have z1 := HZ.out.cellv 1 (v := .slice none 0 0) rfl
  have y0 := HZ.out.frozen 0
  have y1 := HZ.out.frozen 1
  go_region_held3 (fun w' => w'.cell? ⟨w.heap.size, 0, none⟩ = some (.int .i64 N) ∧ w'.cell? ⟨w.heap.size, 1, none⟩ = some (.slice a R.length c)) (first | assumption | exact ⟨by assumption, by assumption⟩ | go_keep)
    (first
      | (refine step_append_any _ (by rfl) (.tmp 5) (.tmp 7) 22 (by rfl) w0.heap.size 55 i0 (.agg #[.int .i64 0, .int .i64 0, .int .i64 0, .int .i64 0]) 4 32 Try.underlying22 Hi.out.1 Hi.out.2.1 Hi.out.2.2.1 Hi.out.2.2.2 (by rfl) (by omega) (.slice (some ⟨w0.heap.size, 0, none⟩) 0 0) 0 [] (by rfl) (row_empty w0.drew 55 4) _ a R.length c (roadV R) (by rfl) (reads_roads (hl.ext (Ext.trans' hEz ((ext_drew w0).trans' (ext_alloc _ _))))) (roadV_one_cell R) (by unfold maxLen; omega) (by omega) (by simp) ?_
         intro v' w9 hown hgrow hat
         have hO : OwnRd w9 w0.heap.size v' R := by unfold OwnRd; simpa using hown
         have hX9 : Ext w0 w9 := ext_grow ((ext_drew w0).trans' (ext_alloc _ _)) (row_empty w0.drew 55 4) (Nat.le_refl _) hgrow
         obtain ⟨ga, gc, rfl, hRd⟩ := hO.roads
         have hZ9 := HZ.out.ext hX9
         have k0 := hZ9.cellv 0 (v := .int .i64 0) rfl
         have k1 := hZ9.cellv 1 (v := .slice none 0 0) rfl
         have l0 := hZ9.frozen 0
         have l1 := hZ9.frozen 1
         have hzl := hZ9.lt
         have hs0 := (HB0.out.ext hX9).cellv 0 (v := .int .i64 N) rfl
         have hs1 := (HB0.out.ext hX9).cellv 1 (v := .slice a R.length c) rfl
         have hs := ((HB0.out.ext hX9).other (B' := w.heap.size + 1) (by omega) 0 (.int .i64 N)).other (B' := w.heap.size + 1) (by omega) 1 (.slice ga R.length gc)
         have hs2 := hs.cellv 0 (v := .int .i64 N) rfl
         have hs3 := hs.cellv 1 (v := .slice a R.length c) rfl))
  have HF := Lib.hid (BlkC.net (u := .int .i64 N) (v := .slice ga R.length gc) hZ9)
  have hEF : Ext w ((w9.setCell ⟨w.heap.size + 1, 0, none⟩ (.int .i64 N)).setCell ⟨w.heap.size + 1, 1, none⟩ (.slice ga R.length gc)) := ((Ext.trans' hEz hX9).setCell (p := ⟨w.heap.size + 1, 0, none⟩) (by simp) _).setCell (p := ⟨w.heap.size + 1, 1, none⟩) (by simp) _
  have hOF : OwnRd ((w9.setCell ⟨w.heap.size + 1, 0, none⟩ (.int .i64 N)).setCell ⟨w.heap.size + 1, 1, none⟩ (.slice ga R.length gc)) w0.heap.size (.slice ga R.length gc) R := (hO.other (row_away hO (by omega)) 0 _).other (row_away hO (by omega)) 1 _
  generalize ((w9.setCell ⟨w.heap.size + 1, 0, none⟩ (.int .i64 N)).setCell ⟨w.heap.size + 1, 1, none⟩ (.slice ga R.length gc)) = wf at *
  have d0 := HF.out.cellv 0 (v := .int .i64 N) rfl
  have d1 := HF.out.cellv 1 (v := .slice ga R.length gc) rfl
  go_wp2_with fail
  refine bodyPost_ret (v := .agg #[.int .i64 N, .slice ga R.length gc]) (by simp [results, Try.results51, go_sem, d0, d1]) rfl ?_
  exact ⟨_, rfl, hOF.base (by omega), hEF⟩
def rv (s : Road) : Value := .agg #[.int .i64 s.fr, .int .i64 s.to, .int .i64 s.ln, .int .i64 s.wd]
theorem und55 : Try.prog.underlying 55 = some (.struct (Try.prog.fieldsOf 55)) := by kernel_rfl
theorem stood55 : Try.prog.stoodInHeld 55 = false := by kernel_rfl
theorem guard55 : Try.prog.eqGuardType Try.prog.depth 55 = false := by kernel_rfl
def sameRd (s t : Road) : Bool := s.fr == t.fr && (s.to == t.to && (s.ln == t.ln && s.wd == t.wd))
theorem sameRd_iff {s t : Road} : sameRd s t = true ↔ s = t := by
  cases s; cases t; simp [sameRd]
def diffRd (s t : Road) : Bool := !sameRd s t
theorem neq_road (w : World) (s t : Road) : (binOp .neq 55 (rv s) (rv t)).run Try.prog w = .ok (.bool (diffRd s t)) w := by
  unfold rv
  simp only [run_neq_struct, run_equalIn_agg _ _ _ _ _ und55 stood55]
  have hf : (Try.prog.fieldsOf 55).toList = (match Try.prog.underlying 55 with | some (.struct fs) => fs.toList | _ => []) := by kernel_rfl
  rw [hf, Try.underlying55]
  simp [Op.eqFields, go_sem, sameRd, diffRd]
  by_cases h1 : s.fr = t.fr <;> by_cases h2 : s.to = t.to <;> by_cases h3 : s.ln = t.ln <;> by_cases h4 : s.wd = t.wd <;> simp [h1, h2, h3, h4]
set_option maxHeartbeats 4000000 in
theorem f37_c (N N' : Int) (a b : Option Addr) (n m c d : Nat) (l k : List Road) (w : World) (hl : Roads w a l) (hk : Roads w b k) (hn : l.length = n) (hm : k.length = m) (hn1 : n ≤ 1000000) (hm1 : m ≤ 1000000) :
    Calls Try.prog 37 #[.agg #[.int .i64 N, .slice a n c], .agg #[.int .i64 N', .slice b m d]] w fun e w' => e = .returned (.bool (sameNet N l N' k)) ∧ Ext w w' := by
  subst hn hm
  have hE0 : Ext w ((w.alloc (.cells #[.int .i64 N, .slice a l.length c] 24)).alloc (.cells #[.int .i64 N', .slice b k.length d] 24)) := (ext_alloc w _).trans' (ext_alloc _ _)
  have HA := Lib.hid ((BlkC.new w #[.int .i64 N, .slice a l.length c] 24).alloc (.cells #[.int .i64 N', .slice b k.length d] 24))
  have HB := Lib.hid (BlkC.new (w.alloc (.cells #[.int .i64 N, .slice a l.length c] 24)) #[.int .i64 N', .slice b k.length d] 24)
  have hzz : (w.alloc (.cells #[.int .i64 N, .slice a l.length c] 24)).heap.size = w.heap.size + 1 := by simp
  rw [hzz] at HB
  clear hzz
  have hz := HB.out.lt
  have g0 := HA.out.cellv 0 (v := .int .i64 N) rfl
  have g1 := HA.out.cellv 1 (v := .slice a l.length c) rfl
  have k0 := HB.out.cellv 0 (v := .int .i64 N') rfl
  have k1 := HB.out.cellv 1 (v := .slice b k.length d) rfl
  by_cases hN : N = N'
  case neg =>
    have HR : Hid (sameNet N l N' k = false) := Lib.hid (by simp [sameNet, hN])
    have hne : (N != N') = true := by simp [hN]
    clear hN
    go_enter Try.func37, Try.ntmps37
    go_wp2_with fail
    generalize (w.alloc (.cells #[.int .i64 N, .slice a l.length c] 24)).alloc (.cells #[.int .i64 N', .slice b k.length d] 24) = w0 at *
    go_ret
    exact ⟨ret_bool HR.out.symm, hE0⟩
  subst hN
  by_cases hlen : l.length = k.length
  case neg =>
    have HR : Hid (sameNet N l N k = false) := Lib.hid (by
      unfold sameNet
      rw [decide_eq_true rfl, Bool.true_and, decide_eq_false_iff_not]
      intro e; subst e; exact hlen rfl)
    have hne : (N != N) = false := by simp
    have hne2 : ((l.length : Int) != (k.length : Int)) = true := by simp; omega
    clear hlen
    go_enter Try.func37, Try.ntmps37
    go_wp2_with fail
    generalize (w.alloc (.cells #[.int .i64 N, .slice a l.length c] 24)).alloc (.cells #[.int .i64 N, .slice b k.length d] 24) = w0 at *
    go_ret
    exact ⟨ret_bool HR.out.symm, hE0⟩
  have hne : (N != N) = false := by simp
  have hne2 : ((l.length : Int) != (k.length : Int)) = false := by simp [hlen]
  have Hlen := Lib.hid hlen
  clear hlen
  go_enter Try.func37, Try.ntmps37
  go_wp2_with fail
  generalize (w.alloc (.cells #[.int .i64 N, .slice a l.length c] 24)).alloc (.cells #[.int .i64 N, .slice b k.length d] 24) = w0 at *
  go_loopw [5] (fun i wr => ∃ j : Nat, j ≤ l.length ∧ i = .int .i64 j ∧ Ext w0 wr ∧ Hid (∀ q, q < j → l[q]? = k[q]?)) (fun i _ => l.length - (intOf i).toNat)
  case atStart => exact ⟨0, by omega, rfl, Below.refl _ _, fun q hq => by omega⟩
  case round =>
    obtain ⟨j, hj, rfl, hX, H⟩ := hrel
    have hE := hE0.trans' hX
    clear g0 g1 k0 k1
    have g0 := (HA.out.ext hX).cellv 0 (v := .int .i64 N) rfl
    have g1 := (HA.out.ext hX).cellv 1 (v := .slice a l.length c) rfl
    have k0 := (HB.out.ext hX).cellv 0 (v := .int .i64 N) rfl
    have k1 := (HB.out.ext hX).cellv 1 (v := .slice b k.length d) rfl
    have hzr := (HB.out.ext hX).lt
    have hzr0 := (HA.out.ext hX).lt
    by_cases hlt : j < l.length
    case neg =>
      obtain rfl : j = l.length := by omega
      have HR : Hid (sameNet N l N k = true) := Lib.hid (by
        unfold sameNet
        rw [decide_eq_true rfl, Bool.true_and, decide_eq_true_eq]
        refine List.ext_getElem? fun q => ?_
        rcases Nat.lt_or_ge q l.length with h | h
        · exact H.out q h
        · rw [List.getElem?_eq_none h, List.getElem?_eq_none (by rw [← Hlen.out]; exact h)])
      go_wp2_with fail
      go_ret
      exact ⟨ret_bool HR.out.symm, hE⟩
    have hlt2 : j < k.length := by rw [← Hlen.out]; exact hlt
    obtain ⟨b1, o1, rfl, hb1, x1, x2, x3, x4⟩ := hl.ext hE j hlt
    obtain ⟨b2, o2, rfl, hb2, y1, y2, y3, y4⟩ := hk.ext hE j hlt2
    have hg := guard55
    have hq := fun W => neq_road W l[j] k[j]
    unfold rv at hq
    by_cases he : sameRd l[j] k[j] = true
    · have He := Lib.hid (sameRd_iff.1 he)
      have hb : diffRd l[j] k[j] = false := by simp [diffRd, he]
      clear he
      go_wp2_with fail
      refine wp_region_ext (by kernel_rfl) (by kernel_rfl) ?_
      repeat (go_big_quiet_step (fail))
      refine wpQuiet_nil ?_
      intro w1 hE1
      clear hq hg
      go_wp2_with fail
      go_roundw
      case rel =>
        refine ⟨j + 1, by omega, by go_num, hX.trans' hE1, fun q hq => ?_⟩
        by_cases e : q = j
        · subst e; rw [List.getElem?_eq_getElem hlt, List.getElem?_eq_getElem hlt2, He.out]
        · exact H.out q (by omega)
      case measure => simp [intOf]; omega
    · have hb : diffRd l[j] k[j] = true := by simpa [diffRd] using he
      have HR : Hid (sameNet N l N k = false) := Lib.hid (by
        unfold sameNet
        rw [decide_eq_true rfl, Bool.true_and, decide_eq_false_iff_not]
        intro e; subst e; exact he (sameRd_iff.2 rfl))
      clear he
      go_wp2_with fail
      refine wp_region_ext (by kernel_rfl) (by kernel_rfl) ?_
      repeat (go_big_quiet_step (fail))
      refine wpQuiet_nil ?_
      intro w1 hE1
      clear hq hg
      go_wp2_with fail
      go_ret
      exact ⟨ret_bool HR.out.symm, hE.trans' hE1⟩
end Go.Proofs.Ytbejgbflipoboaa
