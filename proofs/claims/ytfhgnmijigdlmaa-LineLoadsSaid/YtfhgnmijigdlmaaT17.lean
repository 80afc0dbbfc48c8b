/- Contracts of the line: Shift. -/
import Derived.Test.YtfhgnmijigdlmaaT16
namespace Go.Proofs.Ytfhgnmijigdlmaa
open Go.RowKit
attribute [local go_sem] GW.cell
theorem RetAt.base {L : List Atom} {err : Int} {w W w' : World} {e : Ending} (h : RetAt L err W e w') (hE : Ext w W) : RetAt L err w e w' := by
  obtain ⟨a, c, he, hr, hX⟩ := h
  exact ⟨a, c, he, row_base hr hE.size, hE.trans' hX⟩
def clampI (d : Int) : Int := if d < -3000 then -3000 else if 3000 < d then 3000 else d
theorem shift_clamp {l : List Atom} (hv : valLoad l = 0) (d : Int) : chErr (fun p => p + clampI d) l = shiftErr l d ∧ chV (fun p => p + clampI d) l = shiftV l d := by
  have hb := (valLoad_in hv).2.1
  cases l with
  | nil =>
    have e : shiftErr [] d = 0 := by unfold shiftErr; rw [if_neg (by simpa using hv)]; rfl
    exact ⟨by rw [e]; rfl, by unfold shiftV; rw [if_pos e]; rfl⟩
  | cons x l =>
    have hx := (hb x List.mem_cons_self).1
    have hok : chOk (fun p => p + clampI d) (x :: l) = shiftOk (x :: l) d := by
      by_cases h : clampI d = d
      · rw [h]; rfl
      · have h1 : chOk (fun p => p + clampI d) (x :: l) = false := by
          refine chOk_no (k := 0) (by simp) ?_
          rw [← Bool.not_eq_true, withinB_iff]
          simp only [List.getElem_cons_zero]
          unfold clampI at *
          split at h <;> (try split at h) <;> (try split) <;> omega
        have h2 : shiftOk (x :: l) d = false := by
          unfold shiftOk
          rw [List.all_eq_false]
          refine ⟨x, List.mem_cons_self, ?_⟩
          rw [withinB_iff]
          unfold clampI at h
          split at h <;> (try split at h) <;> omega
        rw [h1, h2]
    have e1 : shiftErr (x :: l) d = if shiftOk (x :: l) d then 0 else 1 := by unfold shiftErr; rw [if_neg (by simpa using hv)]
    refine ⟨by unfold chErr; rw [hok, e1], ?_⟩
    unfold chV shiftV
    rw [hok, e1]
    cases hs : shiftOk (x :: l) d
    · simp
    · simp only [if_true]
      have hcl : clampI d = d := by
        unfold shiftOk at hs
        rw [List.all_eq_true] at hs
        have := withinB_iff.1 (hs x List.mem_cons_self)
        unfold clampI; split <;> (try split) <;> omega
      rw [hcl]; rfl
set_option maxRecDepth 20000 in
set_option maxHeartbeats 8000000 in
theorem f35_c (a : Option Addr) (n c : Nat) (l : List Atom) (d : Int) (w : World) (hl : Atoms w a l) (hn : l.length = n) (hlen : n ≤ 140737488355328) :
    Calls Try.prog 35 #[.slice a n c, .int .i64 d] w (RetAt (shiftV l d) (shiftErr l d) w) := by
  have hE0 := ext_alloc w (.cells #[.int .i64 d] 3)
  have HB := Lib.hid (BlkC.new w #[.int .i64 d] 3)
  have C1 := f47_c a n c l _ (hl.ext hE0) hn hlen
  by_cases h0 : valLoad l = 0
  case neg =>
    have hb : (valLoad l != 0) = true := by simp [h0]
    have e1 : shiftErr l d = valLoad l := by unfold shiftErr; rw [if_pos h0]
    rw [show shiftV l d = [] by unfold shiftV; rw [e1, if_neg h0], e1]
    have C1 := Lib.hid C1
    clear h0 hn e1
    generalize valLoad l = E at *
    go_enter Try.func35, Try.ntmps35
    go_wp2_with fail
    generalize w.alloc (.cells #[.int .i64 d] 3) = w0 at *
    refine C1.out.mono ?_
    rintro e w1 ⟨rfl, hE1⟩
    go_wp2_with fail
    go_ret2
    exact retAt_nil (hE0.trans' hE1)
  have Hs := shift_clamp h0 d
  have h6 : n ≤ 6 := by have := (valLoad_in h0).1; omega
  have hbd : ∀ x ∈ l, -1000 ≤ x.p ∧ x.p ≤ 1000 := fun x hx => ((valLoad_in h0).2.1 x hx).1
  rw [h0] at C1
  have C1 := Lib.hid C1
  clear h0
  by_cases h1 : d < -3000
  · rw [show clampI d = -3000 by unfold clampI; rw [if_pos h1]] at Hs
    have Hs := Lib.hid Hs
    have m1 : min d 3000 = d := by omega
    have m2 : max (-3000) d = -3000 := by omega
    have q1 : decide (3000 < d) = false := by simp; omega
    have q2 : decide (d < 3000) = true := by simp; omega
    have q3 : decide (-3000 < d) = false := by simp; omega
    go_enter Try.func35, Try.ntmps35
    go_wp2_with fail
    generalize w.alloc (.cells #[.int .i64 d] 3) = w0 at *
    refine C1.out.mono ?_
    rintro e w1 ⟨rfl, hX1⟩
    have hE1 := hE0.trans' hX1
    have k0 := (HB.out.ext hX1).cellv 0 (v := .int .i64 d) rfl
    have kf := (HB.out.ext hX1).frozen 0
    have HB1 := Lib.hid ((HB.out.ext hX1).set 0 (.int .i64 (-3000)))
    have hE2 := hE1.setCell (p := ⟨w.heap.size, 0, none⟩) (Nat.le_refl _) (.int .i64 (-3000))
    have C2 := Lib.hid (f84_shift a n c l w.heap.size (-3000) _ (hl.ext hE2) hn h6 hbd (HB1.out.cellv 0 (v := .int .i64 (-3000)) rfl) HB1.out.lt (by omega))
    rw [Hs.out.1, Hs.out.2] at C2
    have C2 := Lib.hid (C2.out.mono (fun e w' h => RetAt.base h hE2))
    clear hn
    generalize shiftV l d = LV at *
    generalize shiftErr l d = LE at *
    go_wp2_with fail
    refine C2.out.mono ?_
    rintro e w2 ⟨av, cv, rfl, hr, hE3⟩
    have hf := Lib.hid (show RetAt LV LE w (.returned (.tuple #[.slice av LV.length cv, .int .i64 LE])) w2 from ⟨av, cv, rfl, hr, hE3⟩)
    clear hr
    go_wp2_with fail
    go_ret2
    exact hf.out
  by_cases h2 : 3000 < d
  · rw [show clampI d = 3000 by unfold clampI; rw [if_neg h1, if_pos h2]] at Hs
    have Hs := Lib.hid Hs
    have m1 : min d 3000 = 3000 := by omega
    have q1 : decide (3000 < d) = true := by simp; omega
    have q2 : decide (d < 3000) = false := by simp; omega
    go_enter Try.func35, Try.ntmps35
    go_wp2_with fail
    generalize w.alloc (.cells #[.int .i64 d] 3) = w0 at *
    refine C1.out.mono ?_
    rintro e w1 ⟨rfl, hX1⟩
    have hE1 := hE0.trans' hX1
    have k0 := (HB.out.ext hX1).cellv 0 (v := .int .i64 d) rfl
    have kf := (HB.out.ext hX1).frozen 0
    have HB1 := Lib.hid ((HB.out.ext hX1).set 0 (.int .i64 3000))
    have hE2 := hE1.setCell (p := ⟨w.heap.size, 0, none⟩) (Nat.le_refl _) (.int .i64 3000)
    have C2 := Lib.hid (f84_shift a n c l w.heap.size 3000 _ (hl.ext hE2) hn h6 hbd (HB1.out.cellv 0 (v := .int .i64 3000) rfl) HB1.out.lt (by omega))
    rw [Hs.out.1, Hs.out.2] at C2
    have C2 := Lib.hid (C2.out.mono (fun e w' h => RetAt.base h hE2))
    clear hn
    generalize shiftV l d = LV at *
    generalize shiftErr l d = LE at *
    go_wp2_with fail
    refine C2.out.mono ?_
    rintro e w2 ⟨av, cv, rfl, hr, hE3⟩
    have hf := Lib.hid (show RetAt LV LE w (.returned (.tuple #[.slice av LV.length cv, .int .i64 LE])) w2 from ⟨av, cv, rfl, hr, hE3⟩)
    clear hr
    go_wp2_with fail
    go_ret2
    exact hf.out
  rw [show clampI d = d by unfold clampI; rw [if_neg h1, if_neg h2]] at Hs
  have Hs := Lib.hid Hs
  have m1 : min d 3000 = d := by omega
  have m2 : max (-3000) d = d := by omega
  go_enter Try.func35, Try.ntmps35
  go_wp2_with fail
  generalize w.alloc (.cells #[.int .i64 d] 3) = w0 at *
  refine C1.out.mono ?_
  rintro e w1 ⟨rfl, hX1⟩
  have hE1 := hE0.trans' hX1
  have k0 := (HB.out.ext hX1).cellv 0 (v := .int .i64 d) rfl
  have kf := (HB.out.ext hX1).frozen 0
  have HB1 := Lib.hid ((HB.out.ext hX1).set 0 (.int .i64 d))
  have hE2 := hE1.setCell (p := ⟨w.heap.size, 0, none⟩) (Nat.le_refl _) (.int .i64 d)
  have C2 := Lib.hid (f84_shift a n c l w.heap.size d _ (hl.ext hE2) hn h6 hbd (HB1.out.cellv 0 (v := .int .i64 d) rfl) HB1.out.lt (by omega))
  rw [Hs.out.1, Hs.out.2] at C2
  have C2 := Lib.hid (C2.out.mono (fun e w' h => RetAt.base h hE2))
  clear hn
  generalize shiftV l d = LV at *
  generalize shiftErr l d = LE at *
  go_wp2_with fail
  refine C2.out.mono ?_
  rintro e w2 ⟨av, cv, rfl, hr, hE3⟩
  have hf := Lib.hid (show RetAt LV LE w (.returned (.tuple #[.slice av LV.length cv, .int .i64 LE])) w2 from ⟨av, cv, rfl, hr, hE3⟩)
  clear hr
  go_wp2_with fail
  go_ret2
  exact hf.out

theorem shL_take {l : List Atom} {d : Int} {k : Nat} (hk : k < l.length) : shiftL (l.take (k + 1)) d = shiftL (l.take k) d ++ [⟨l[k].p + d, l[k].m⟩] := by
  unfold shiftL; rw [List.take_succ_eq_append_getElem hk, List.map_append]; rfl
theorem shL_len (l : List Atom) (d : Int) : (shiftL l d).length = l.length := by simp [shiftL]
theorem shift_valid_iff {l : List Atom} (hv : valLoad l = 0) (d : Int) : valLoad (shiftL l d) = 0 ↔ shiftErr l d = 0 := by
  constructor
  · intro h
    unfold shiftErr
    rw [if_neg (by simpa using hv), if_pos]
    unfold shiftOk
    rw [List.all_eq_true]
    intro x hx
    have := (valLoad_in h).2.1 ⟨x.p + d, x.m⟩ (by unfold shiftL; exact List.mem_map_of_mem (f := fun x : Atom => (⟨x.p + d, x.m⟩ : Atom)) hx)
    exact withinB_iff.2 this.1
  · exact shift_valid
set_option maxRecDepth 20000 in
set_option maxHeartbeats 8000000 in
theorem f36_c (a : Option Addr) (n c : Nat) (l : List Atom) (d : Int) (w : World) (hl : Atoms w a l) (hn : l.length = n) (hlen : n ≤ 140737488355328) :
    Calls Try.prog 36 #[.slice a n c, .int .i64 d] w (RetAt (shiftV l d) (shiftErr l d) w) := by
  have C1 := f48_c a n c l _ hl hn hlen
  by_cases h0 : valLoad l = 0
  case neg =>
    have hb : (valLoad l != 0) = true := by simp [h0]
    have e1 : shiftErr l d = valLoad l := by unfold shiftErr; rw [if_pos h0]
    rw [show shiftV l d = [] by unfold shiftV; rw [e1, if_neg h0], e1]
    have C1 := Lib.hid C1
    clear h0 hn e1
    generalize valLoad l = E at *
    go_enter Try.func36, Try.ntmps36
    go_wp2_with fail
    refine C1.out.mono ?_
    rintro e w1 ⟨rfl, hE1⟩
    go_wp2_with fail
    go_ret2
    exact retAt_nil hE1
  have h6 : n ≤ 6 := by have := (valLoad_in h0).1; omega
  have hbd : ∀ x ∈ l, (-1000 ≤ x.p ∧ x.p ≤ 1000) := fun x hx => ((valLoad_in h0).2.1 x hx).1
  have Hbd := Lib.hid hbd
  have C2 := fun W => f75_c d (-2000) 2000 W
  have He0 : shiftErr l d = if shiftOk l d then 0 else 1 := by unfold shiftErr; rw [if_neg (by simpa using h0)]
  have HE0 := Lib.hid He0
  have Hiff := Lib.hid (shift_valid_iff h0 d)
  rw [h0] at C1
  have C1 := Lib.hid C1
  clear h0 hbd
  subst hn
  by_cases hb : 0 < l.length ∧ withinB d (-2000) 2000 = false
  · obtain ⟨hb1, hb2⟩ := hb
    have e1 : shiftErr l d = 1 := by
      rw [He0, if_neg]
      unfold shiftOk
      rw [List.all_eq_true]
      intro h
      have h1 := withinB_iff.1 (h l[0] (List.getElem_mem hb1))
      have h2 := Hbd.out l[0] (List.getElem_mem hb1)
      rw [← Bool.not_eq_true, withinB_iff] at hb2
      omega
    rw [show shiftV l d = [] by unfold shiftV; rw [e1, if_neg (by omega)], e1]
    simp only [hb2] at C2
    have C2 := Lib.hid C2
    have d1 : decide (0 < l.length) = true := by simpa using hb1
    clear He0 HE0 e1 hb2 Hiff
    go_enter Try.func36, Try.ntmps36
    go_wp2_with fail
    refine C1.out.mono ?_
    rintro e w1 ⟨rfl, hE1⟩
    go_wp2_with fail
    refine (C2.out _).mono ?_
    rintro e w' ⟨rfl, rfl⟩
    go_wp2_with fail
    go_ret2
    exact retAt_nil hE1
  have hdb : 0 < l.length → -2000 ≤ d ∧ d ≤ 2000 := fun h => by
    have h2 : withinB d (-2000) 2000 = true := by
      cases hw : withinB d (-2000) 2000
      · exact absurd ⟨h, hw⟩ hb
      · rfl
    exact withinB_iff.1 h2
  have Hdb := Lib.hid hdb
  obtain ⟨i0, hi0⟩ := info_parts info50
  have Hi := Lib.hid hi0
  have HL := Lib.hid (shL_len l d)
  clear hi0 hb hdb He0
  have fin : ∀ (wr : World) (v : Value), Ext w wr → wr.ownsRow w.heap.size 50 2 v l.length (atomV (shiftL l d)) → ∃ av cv, v = .slice av l.length cv ∧ Calls Try.prog 80 #[.slice av l.length cv] wr (RetAt (shiftV l d) (shiftErr l d) w) := fun wr v hE hr => by
    have hr2 := hr
    rw [← HL.out] at hr2
    obtain ⟨av, cv, e, hA⟩ := atoms_of_row hr2
    subst e
    rw [HL.out] at hr hr2 ⊢
    refine ⟨av, cv, rfl, ?_⟩
    by_cases hv : valLoad (shiftL l d) = 0
    · refine (f80_yes av l.length cv (shiftL l d) wr hA HL.out (by omega) hv).mono fun e w' h => ?_
      obtain ⟨rfl, hX⟩ := h
      have e1 := Hiff.out.1 hv
      refine ⟨av, cv, by unfold shiftV; rw [e1, if_pos rfl, HL.out], ?_, hE.trans' hX⟩
      unfold shiftV; rw [if_pos e1, HL.out]; exact row_ext hr hX
    · refine (f80_no av l.length cv (shiftL l d) wr hA HL.out (by omega) hv).mono fun e w' h => ?_
      obtain ⟨rfl, hX⟩ := h
      have e1 : shiftErr l d = 1 := by
        have h1 : shiftErr l d ≠ 0 := fun h => hv (Hiff.out.2 h)
        have h2 := HE0.out
        cases hs : shiftOk l d
        · rw [h2, hs]; rfl
        · rw [hs] at h2; exact absurd h2 h1
      rw [show shiftV l d = [] by unfold shiftV; rw [e1, if_neg (by omega)], e1]
      exact retAt_nil (hE.trans' hX)
  by_cases h0l : 0 < l.length
  · have d1 : decide (0 < l.length) = true := by simpa using h0l
    have hwt : withinB d (-2000) 2000 = true := withinB_iff.2 (Hdb.out h0l)
    simp only [hwt] at C2
    have C2 := Lib.hid C2
    clear hwt
    go_enter Try.func36, Try.ntmps36
    go_wp2_with fail
    refine C1.out.mono ?_
    rintro e w1 ⟨rfl, hE1⟩
    go_wp2_with fail
    refine (C2.out _).mono ?_
    rintro e w' ⟨rfl, rfl⟩
    go_wp2_with fail
    go_loopw [7, 8] (fun v i wr => ∃ k : Nat, k ≤ l.length ∧ i = .int .i64 k ∧ Ext w wr ∧ Hid (wr.ownsRow w.heap.size 50 2 v k (atomV (shiftL (l.take k) d)))) (fun _ i _ => l.length - (intOf i).toNat)
    case atStart => exact ⟨0, Nat.zero_le _, rfl, hE1, World.ownsRow_nil _ _ _ _⟩
    case round =>
      obtain ⟨k, hk, rfl, hE, H⟩ := hrel
      by_cases hlt : k < l.length
      · obtain ⟨b, off, rfl, hb, hx, hy⟩ := hl.ext hE k hlt
        have hp := Hbd.out _ (List.getElem_mem hlt)
        have hd := Hdb.out (by omega)
        have Ht := Lib.hid (shL_take (d := d) hlt)
        generalize l[k].p = pp at *
        generalize l[k].m = mm at *
        have k1 : IntKind.i64.wrap (pp + d) = pp + d := IntWalk.i64_in _ (by omega)
        go_wp2_with fail
        refine wp_region_ext_tail1 14 (by kernel_rfl) (by kernel_rfl) (by rfl) (by rfl) (fun _ _ _ h => h) ?_
        simp only [List.take_succ_cons, List.take_zero, List.drop_succ_cons, List.drop_zero]
        go_simp
        repeat (go_big_quiet_step (fail))
        refine wpQuiet_nil ?_
        intro w4 hE4
        have H4 := Lib.hid (row_ext H.out hE4)
        have hE4 := hE.trans' hE4
        have hsz := hE4.size
        have Hn := Lib.hid (reads_atoms (atoms_new1 w4 ⟨pp + d, mm⟩ 50))
        clear k1
        go_wp2_with (at_builtin; refine wpList_append_any _ rfl (.tmp 28) (.tmp 42) 22 rfl w.heap.size 50 i0 _ 2 16 Try.underlying22 Hi.out.1 Hi.out.2.1 Hi.out.2.2.1 Hi.out.2.2.2 rfl (by omega) _ k _ rfl (H4.out.alloc _) _ (some ⟨w4.heap.size, 0, none⟩) 1 1 (atomV [⟨pp + d, mm⟩]) rfl Hn.out (atomV_one_cell _) (by unfold maxLen; omega) (by omega) (by simp; omega) ?_; intro v' w5 hown hgrow hat; have hE5 := ext_append hE4 H4.out (Nat.le_refl _) hgrow; rw [← atomV_append, ← Ht.out] at hown; have H5 := Lib.hid hown; clear hat hgrow hown)
        go_roundw
        case rel => exact ⟨k + 1, by omega, by go_num, hE5, H5⟩
        case measure => simp [intOf]; omega
      · obtain rfl : k = l.length := by omega
        have H2 := H.out
        rw [List.take_length] at H2
        obtain ⟨av, cv, e, CF⟩ := fin wr _ hE H2
        subst e
        have CF := Lib.hid CF
        clear H2 H fin
        generalize shiftV l d = LV at *
        generalize shiftErr l d = LE at *
        go_wp2_with fail
        refine CF.out.mono ?_
        rintro e w2 ⟨ax, cx, rfl, hr, hE3⟩
        have hf := Lib.hid (show RetAt LV LE w (.returned (.tuple #[.slice ax LV.length cx, .int .i64 LE])) w2 from ⟨ax, cx, rfl, hr, hE3⟩)
        clear hr
        go_wp2_with fail
        go_ret2
        exact hf.out
  · have d1 : decide (0 < l.length) = false := by simpa using h0l
    clear C2
    go_enter Try.func36, Try.ntmps36
    go_wp2_with fail
    refine C1.out.mono ?_
    rintro e w1 ⟨rfl, hE1⟩
    go_wp2_with fail
    go_loopw [7, 8] (fun v i wr => ∃ k : Nat, k ≤ l.length ∧ i = .int .i64 k ∧ Ext w wr ∧ Hid (wr.ownsRow w.heap.size 50 2 v k (atomV (shiftL (l.take k) d)))) (fun _ i _ => l.length - (intOf i).toNat)
    case atStart => exact ⟨0, Nat.zero_le _, rfl, hE1, World.ownsRow_nil _ _ _ _⟩
    case round =>
      obtain ⟨k, hk, rfl, hE, H⟩ := hrel
      by_cases hlt : k < l.length
      · omega
      · obtain rfl : k = l.length := by omega
        have H2 := H.out
        rw [List.take_length] at H2
        obtain ⟨av, cv, e, CF⟩ := fin wr _ hE H2
        subst e
        have CF := Lib.hid CF
        clear H2 H fin
        generalize shiftV l d = LV at *
        generalize shiftErr l d = LE at *
        go_wp2_with fail
        refine CF.out.mono ?_
        rintro e w2 ⟨ax, cx, rfl, hr, hE3⟩
        have hf := Lib.hid (show RetAt LV LE w (.returned (.tuple #[.slice ax LV.length cx, .int .i64 LE])) w2 from ⟨ax, cx, rfl, hr, hE3⟩)
        clear hr
        go_wp2_with fail
        go_ret2
        exact hf.out
end Go.Proofs.Ytfhgnmijigdlmaa
