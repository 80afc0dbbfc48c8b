/- Contracts of the line: shifts. -/
import Derived.Test.YtfhgnmijigdlmaaT15
namespace Go.Proofs.Ytfhgnmijigdlmaa
open Go.RowKit
attribute [local go_sem] GW.cell
theorem und50 : Try.prog.underlying 50 = some (.struct (Try.prog.fieldsOf 50)) := by kernel_rfl
theorem stood50 : Try.prog.stoodInHeld 50 = false := by kernel_rfl
theorem guard50 : Try.prog.eqGuardType Try.prog.depth 50 = false := by kernel_rfl
def sameB (s t : Atom) : Bool := s.p == t.p && s.m == t.m
theorem sameB_iff {s t : Atom} : sameB s t = true ↔ s = t := by cases s; cases t; simp [sameB]
def diffB (s t : Atom) : Bool := !sameB s t
theorem neq_atom (w : World) (s t : Atom) : (binOp .neq 50 (.agg #[.int .i64 s.p, .int .i64 s.m]) (.agg #[.int .i64 t.p, .int .i64 t.m])).run Try.prog w = .ok (.bool (diffB s t)) w := by
  simp only [run_neq_struct, run_equalIn_agg _ _ _ _ _ und50 stood50]
  have hf : (Try.prog.fieldsOf 50).toList = (match Try.prog.underlying 50 with | some (.struct fs) => fs.toList | _ => []) := by kernel_rfl
  rw [hf, Try.underlying50]
  simp [Op.eqFields, go_sem, sameB, diffB]
  by_cases h1 : s.p = t.p <;> by_cases h2 : s.m = t.m <;> simp [h1, h2]
set_option maxHeartbeats 1000000 in
theorem f30_c (a b : Option Addr) (n m c d : Nat) (l k : List Atom) (w : World) (hl : Atoms w a l) (hk : Atoms w b k) (hn : l.length = n) (hm : k.length = m) (hn1 : n ≤ 140737488355328) (hm1 : m ≤ 140737488355328) :
    Calls Try.prog 30 #[.slice a n c, .slice b m d] w fun e w' => e = .returned (.bool (decide (l = k))) ∧ Ext w w' := by
  subst hn hm
  by_cases hlen : l.length = k.length
  · have hne : ((l.length : Int) != (k.length : Int)) = false := by simp [hlen]
    have Hlen := Lib.hid hlen
    clear hlen
    go_enter Try.func30, Try.ntmps30
    go_wp2_with fail
    go_loopw [5] (fun i wr => ∃ j : Nat, j ≤ l.length ∧ i = .int .i64 j ∧ Ext w wr ∧ Hid (∀ q, q < j → l[q]? = k[q]?)) (fun i _ => l.length - (intOf i).toNat)
    case atStart => exact ⟨0, by omega, rfl, Below.refl _ _, fun q hq => by omega⟩
    case round =>
      obtain ⟨j, hj, rfl, hE, H⟩ := hrel
      by_cases hlt : j < l.length
      · have hlt2 : j < k.length := by rw [← Hlen.out]; exact hlt
        obtain ⟨b1, o1, rfl, hb1, x1, y1⟩ := hl.ext hE j hlt
        obtain ⟨b2, o2, rfl, hb2, x2, y2⟩ := hk.ext hE j hlt2
        by_cases he : sameB l[j] k[j] = true
        · have He := Lib.hid (sameB_iff.1 he)
          have hb : diffB l[j] k[j] = false := by simp [diffB, he]
          clear he
          have hg := guard50
          have hq := fun W => neq_atom W l[j] k[j]
          go_wp2_with fail
          refine wp_region_ext (by kernel_rfl) (by kernel_rfl) ?_
          repeat (go_big_quiet_step (fail))
          refine wpQuiet_nil ?_
          intro w1 hE1
          clear hq hg
          go_wp2_with fail
          go_roundw
          case rel =>
            refine ⟨j + 1, by omega, by go_num, hE.trans' hE1, fun q hq => ?_⟩
            by_cases e : q = j
            · subst e; rw [List.getElem?_eq_getElem hlt, List.getElem?_eq_getElem hlt2, He.out]
            · exact H.out q (by omega)
          case measure => simp [intOf]; omega
        · have hb : diffB l[j] k[j] = true := by simpa [diffB] using he
          have He := Lib.hid he
          clear he
          have hg := guard50
          have hq := fun W => neq_atom W l[j] k[j]
          go_wp2_with fail
          refine wp_region_ext (by kernel_rfl) (by kernel_rfl) ?_
          repeat (go_big_quiet_step (fail))
          refine wpQuiet_nil ?_
          intro w1 hE1
          clear hq hg
          go_wp2_with fail
          go_ret
          exact ⟨ret_bool (by symm; rw [decide_eq_false_iff_not]; intro e; subst e; exact He.out (sameB_iff.2 rfl)), hE.trans' hE1⟩
      · obtain rfl : j = l.length := by omega
        go_wp2_with fail
        go_ret
        refine ⟨ret_bool ?_, hE⟩
        symm; rw [decide_eq_true_eq]
        refine List.ext_getElem Hlen.out fun q h1 h2 => ?_
        have := H.out q h1
        rw [List.getElem?_eq_getElem h1, List.getElem?_eq_getElem h2] at this
        simpa using this
  · have hne : ((l.length : Int) != (k.length : Int)) = true := by simp; omega
    have Hlen := Lib.hid hlen
    clear hlen
    go_enter Try.func30, Try.ntmps30
    go_wp2_with fail
    go_ret
    exact ⟨ret_bool (by symm; rw [decide_eq_false_iff_not]; intro e; subst e; exact Hlen.out rfl), Below.refl _ _⟩
/-- what a call hands back that makes a list of atoms and an error -/
def RetAt (L : List Atom) (err : Int) (w : World) (e : Ending) (w' : World) : Prop := ∃ a c, e = .returned (.tuple #[.slice a L.length c, .int .i64 err]) ∧ w'.ownsRow w.heap.size 50 2 (.slice a L.length c) L.length (atomV L) ∧ Ext w w'
theorem retAt_nil {w w' : World} {e : Int} (hE : Ext w w') : RetAt [] e w (.returned (.tuple #[.slice none 0 0, .int .i64 e])) w' := ⟨none, 0, rfl, World.ownsRow_nil _ _ _ _, hE⟩
theorem RetAt.open_ {L : List Atom} {err : Int} {w w' : World} {e : Ending} (h : RetAt L err w e w') : ∃ a c, e = .returned (.tuple #[.slice a L.length c, .int .i64 err]) ∧ Atoms w' a L ∧ Ext w w' := by
  obtain ⟨a, c, he, hr, hE⟩ := h
  obtain ⟨a', c', e2, hA⟩ := atoms_of_row hr
  simp only [Value.slice.injEq, true_and] at e2
  obtain ⟨rfl, rfl⟩ := e2
  exact ⟨a, c, he, hA, hE⟩
/-! told -/
theorem f80_yes (a : Option Addr) (n c : Nat) (l : List Atom) (w : World) (hl : Atoms w a l) (hn : l.length = n) (hlen : n ≤ 140737488355328) (h : valLoad l = 0) :
    Calls Try.prog 80 #[.slice a n c] w fun e w' => e = .returned (.tuple #[.slice a n c, .int .i64 0]) ∧ Ext w w' := by
  have H := f48_c a n c l w hl hn hlen
  rw [h] at H
  have H := Lib.hid H
  clear h hn
  go_enter Try.func80, Try.ntmps80
  go_wp2_with fail
  refine H.out.mono ?_
  rintro e w1 ⟨rfl, hE⟩
  go_wp2_with fail
  go_ret2
  exact ⟨rfl, hE⟩
theorem f80_no (a : Option Addr) (n c : Nat) (l : List Atom) (w : World) (hl : Atoms w a l) (hn : l.length = n) (hlen : n ≤ 140737488355328) (h : valLoad l ≠ 0) :
    Calls Try.prog 80 #[.slice a n c] w fun e w' => e = .returned (.tuple #[.slice none 0 0, .int .i64 1]) ∧ Ext w w' := by
  have H := Lib.hid (f48_c a n c l w hl hn hlen)
  have hb : (valLoad l != 0) = true := by simp [h]
  clear h hn
  generalize valLoad l = E at *
  go_enter Try.func80, Try.ntmps80
  go_wp2_with fail
  refine H.out.mono ?_
  rintro e w1 ⟨rfl, hE⟩
  go_wp2_with fail
  go_ret2
  exact ⟨rfl, hE⟩
/-! changed -/
def chL (g : Int → Int) (l : List Atom) : List Atom := l.map fun x => ⟨g x.p, x.m⟩
def chOk (g : Int → Int) (l : List Atom) : Bool := l.all fun x => withinB (g x.p) (-1000) 1000
theorem chL_len (g : Int → Int) (l : List Atom) : (chL g l).length = l.length := by simp [chL]
theorem chL_take {g : Int → Int} {l : List Atom} {k : Nat} (hk : k < l.length) : chL g (l.take (k + 1)) = chL g (l.take k) ++ [⟨g l[k].p, l[k].m⟩] := by
  unfold chL; rw [List.take_succ_eq_append_getElem hk, List.map_append]; rfl
theorem chOk_no {g : Int → Int} {l : List Atom} {k : Nat} (hk : k < l.length) (h : withinB (g l[k].p) (-1000) 1000 = false) : chOk g l = false := by
  unfold chOk; rw [List.all_eq_false]; exact ⟨l[k], List.getElem_mem hk, by simp [h]⟩
theorem chOk_yes {g : Int → Int} {l : List Atom} (h : ∀ j, (hj : j < l.length) → withinB (g l[j].p) (-1000) 1000 = true) : chOk g l = true := by
  unfold chOk; rw [List.all_eq_true]
  intro x hx
  obtain ⟨j, hj, rfl⟩ := List.getElem_of_mem hx
  exact h j hj
def chErr (g : Int → Int) (l : List Atom) : Int := if chOk g l then 0 else 1
def chV (g : Int → Int) (l : List Atom) : List Atom := if chOk g l then chL g l else []
theorem f85_c (p d : Int) (B : Nat) (w : World) (hB : w.cell? ⟨B, 0, none⟩ = some (.int .i64 d)) (hp : -1000000 ≤ p ∧ p ≤ 1000000) (hd : -1000000 ≤ d ∧ d ≤ 1000000) :
    Calls Try.prog 85 #[.int .i64 p, .pointer (some ⟨B, 0, none⟩)] w fun e w' => e = .returned (.int .i64 (p + d)) ∧ w = w' := by
  go_enter Try.func85, Try.ntmps85
  go_wp2_with fail
  go_ret
  exact ⟨rfl, rfl⟩
theorem f86_c (p : Int) (w : World) (hp : -1000000 ≤ p ∧ p ≤ 1000000) :
    Calls Try.prog 86 #[.int .i64 p] w fun e w' => e = .returned (.int .i64 (-p)) ∧ w = w' := by
  go_enter Try.func86, Try.ntmps86
  go_wp2_with fail
  go_ret
  exact ⟨rfl, rfl⟩

set_option maxRecDepth 20000 in
set_option maxHeartbeats 8000000 in
theorem f84_shift (a : Option Addr) (n c : Nat) (l : List Atom) (B : Nat) (d : Int) (w : World) (hl : Atoms w a l) (hn : l.length = n) (hlen : n ≤ 6) (hbd : ∀ x ∈ l, -1000 ≤ x.p ∧ x.p ≤ 1000) (hB : w.cell? ⟨B, 0, none⟩ = some (.int .i64 d)) (hBl : B < w.heap.size) (hd : -3000 ≤ d ∧ d ≤ 3000) :
    Calls Try.prog 84 #[.slice a n c, .func (.func 85) #[] #[.pointer (some ⟨B, 0, none⟩)]] w (RetAt (chV (fun p => p + d) l) (chErr (fun p => p + d) l) w) := by
  subst hn
  have Hbd := Lib.hid hbd
  obtain ⟨i0, hi0⟩ := info_parts info50
  have Hi := Lib.hid hi0
  clear hi0 hbd
  go_enter Try.func84, Try.ntmps84
  go_wp2_with fail
  go_loopw [6, 11] (fun v i wr => ∃ k : Nat, k ≤ l.length ∧ i = .int .i64 k ∧ Ext w wr ∧ Hid (wr.ownsRow w.heap.size 50 2 v k (atomV (chL (fun p => p + d) (l.take k)))) ∧ Hid (∀ j, (hj : j < l.length) → j < k → withinB ((fun p => p + d) l[j].p) (-1000) 1000 = true)) (fun _ i _ => l.length - (intOf i).toNat)
  case atStart => exact ⟨0, Nat.zero_le _, rfl, Below.refl _ _, World.ownsRow_nil _ _ _ _, fun j _ hj => by omega⟩
  case round =>
    obtain ⟨k, hk, rfl, hE, H, HO⟩ := hrel
    by_cases hlt : k < l.length
    · obtain ⟨b, off, rfl, hb, hx, hy⟩ := hl.ext hE k hlt
      have hp := Hbd.out _ (List.getElem_mem hlt)
      have Ht := Lib.hid (chL_take (g := (fun p => p + d)) hlt)
      have Hno := Lib.hid (chOk_no (g := (fun p => p + d)) hlt)
      have HN : Hid (withinB ((fun p => p + d) l[k].p) (-1000) 1000 = true → ∀ j, (hj : j < l.length) → j < k + 1 → withinB ((fun p => p + d) l[j].p) (-1000) 1000 = true) := Lib.hid (fun hw j hj hjk => by
        rcases Nat.lt_or_ge j k with e | e
        · exact HO.out j hj e
        · obtain rfl : j = k := by omega
          exact hw)
      generalize l[k].p = pp at *
      generalize l[k].m = mm at *
      have hBc := ((hE.trans' (ext_alloc wr (.cells #[.int .i64 pp, .int .i64 mm] 50))).cell' hBl).trans hB
      have CF := Lib.hid (f85_c pp d B _ hBc (by omega) (by omega))
      have hEa := hE.trans' (ext_alloc wr (.cells #[.int .i64 (pp + d), .int .i64 mm] 50))
      have Ha := Lib.hid (H.out.alloc (.cells #[.int .i64 (pp + d), .int .i64 mm] 50))
      have hsz := hE.size
      have Hn := Lib.hid (reads_atoms (atoms_new1 (wr.alloc (.cells #[.int .i64 (pp + d), .int .i64 mm] 50)) ⟨(pp + d), mm⟩ 50))
      have C91 := fun W => f91_c ((pp + d)) W
      cases hw : withinB ((pp + d)) (-1000) 1000
      · simp only [hw] at C91
        have C91 := Lib.hid C91
        have hno := Hno.out hw
        have Hf := Lib.hid (show RetAt (chV (fun p => p + d) l) (chErr (fun p => p + d) l) w (.returned (.tuple #[.slice none 0 0, .int .i64 1])) (wr.alloc (.cells #[.int .i64 (pp + d), .int .i64 mm] 50)) by
          unfold chV chErr; rw [hno]; exact retAt_nil hEa)
        clear hw hno HN Hno
        go_wp2_with fail
        refine CF.out.mono ?_
        rintro e w' ⟨rfl, rfl⟩
        go_wp2_with fail
        refine (C91.out _).mono ?_
        rintro e w' ⟨rfl, rfl⟩
        go_wp2_with fail
        go_ret2
        exact Hf.out
      · simp only [hw] at C91
        have C91 := Lib.hid C91
        have HN := Lib.hid (HN.out hw)
        clear hw Hno
        go_wp2_with fail
        refine CF.out.mono ?_
        rintro e w' ⟨rfl, rfl⟩
        go_wp2_with fail
        refine (C91.out _).mono ?_
        rintro e w' ⟨rfl, rfl⟩
        go_wp2_with (at_builtin; refine wpList_append_any _ rfl (.tmp 24) (.tmp 26) 22 rfl w.heap.size 50 i0 _ 2 16 Try.underlying22 Hi.out.1 Hi.out.2.1 Hi.out.2.2.1 Hi.out.2.2.2 rfl (by omega) _ k _ rfl (Ha.out.alloc _) _ (some ⟨wr.heap.size + 1, 0, none⟩) 1 1 (atomV [⟨(pp + d), mm⟩]) rfl (by have := Hn.out; simp only [World.size_alloc] at this ⊢; exact this) (atomV_one_cell _) (by unfold maxLen; omega) (by omega) (by simp; omega) ?_; intro v' w5 hown hgrow hat; have hE5 := ext_append hEa Ha.out (Nat.le_refl _) hgrow; rw [← atomV_append, ← Ht.out] at hown; have H5 := Lib.hid hown; clear hat hgrow hown)
        go_roundw
        case rel => exact ⟨k + 1, by omega, by go_num, hE5, H5, HN⟩
        case measure => simp [intOf]; omega
    · obtain rfl : k = l.length := by omega
      have hok : chOk (fun p => p + d) l = true := chOk_yes fun j hj => HO.out j hj hj
      have H2 := H.out
      rw [List.take_length] at H2
      obtain ⟨ax, cx, e⟩ := slice_form H2
      subst e
      have hl2 : l.length = (chL (fun p => p + d) l).length := (chL_len _ _).symm
      have Hf := Lib.hid (show RetAt (chV (fun p => p + d) l) (chErr (fun p => p + d) l) w (.returned (.tuple #[.slice ax l.length cx, .int .i64 0])) wr by
        unfold chV chErr; rw [hok]; refine ⟨ax, cx, by simp [chL_len], ?_, hE⟩; simp only [if_true]; rw [chL_len]; exact H2)
      clear H2 H hok HO hl2
      go_wp2_with fail
      go_ret2
      exact Hf.out

set_option maxRecDepth 20000 in
set_option maxHeartbeats 8000000 in
theorem f84_mirror (a : Option Addr) (n c : Nat) (l : List Atom) (w : World) (hl : Atoms w a l) (hn : l.length = n) (hlen : n ≤ 6) (hbd : ∀ x ∈ l, -1000 ≤ x.p ∧ x.p ≤ 1000) :
    Calls Try.prog 84 #[.slice a n c, .func (.func 86) #[] #[]] w (RetAt (chV (fun p => -p) l) (chErr (fun p => -p) l) w) := by
  subst hn
  have Hbd := Lib.hid hbd
  obtain ⟨i0, hi0⟩ := info_parts info50
  have Hi := Lib.hid hi0
  clear hi0 hbd
  go_enter Try.func84, Try.ntmps84
  go_wp2_with fail
  go_loopw [6, 11] (fun v i wr => ∃ k : Nat, k ≤ l.length ∧ i = .int .i64 k ∧ Ext w wr ∧ Hid (wr.ownsRow w.heap.size 50 2 v k (atomV (chL (fun p => -p) (l.take k)))) ∧ Hid (∀ j, (hj : j < l.length) → j < k → withinB ((fun p => -p) l[j].p) (-1000) 1000 = true)) (fun _ i _ => l.length - (intOf i).toNat)
  case atStart => exact ⟨0, Nat.zero_le _, rfl, Below.refl _ _, World.ownsRow_nil _ _ _ _, fun j _ hj => by omega⟩
  case round =>
    obtain ⟨k, hk, rfl, hE, H, HO⟩ := hrel
    by_cases hlt : k < l.length
    · obtain ⟨b, off, rfl, hb, hx, hy⟩ := hl.ext hE k hlt
      have hp := Hbd.out _ (List.getElem_mem hlt)
      have Ht := Lib.hid (chL_take (g := (fun p => -p)) hlt)
      have Hno := Lib.hid (chOk_no (g := (fun p => -p)) hlt)
      have HN : Hid (withinB ((fun p => -p) l[k].p) (-1000) 1000 = true → ∀ j, (hj : j < l.length) → j < k + 1 → withinB ((fun p => -p) l[j].p) (-1000) 1000 = true) := Lib.hid (fun hw j hj hjk => by
        rcases Nat.lt_or_ge j k with e | e
        · exact HO.out j hj e
        · obtain rfl : j = k := by omega
          exact hw)
      generalize l[k].p = pp at *
      generalize l[k].m = mm at *
      skip
      have CF := Lib.hid (fun W => f86_c pp W (by omega))
      have hEa := hE.trans' (ext_alloc wr (.cells #[.int .i64 (-pp), .int .i64 mm] 50))
      have Ha := Lib.hid (H.out.alloc (.cells #[.int .i64 (-pp), .int .i64 mm] 50))
      have hsz := hE.size
      have Hn := Lib.hid (reads_atoms (atoms_new1 (wr.alloc (.cells #[.int .i64 (-pp), .int .i64 mm] 50)) ⟨(-pp), mm⟩ 50))
      have C91 := fun W => f91_c ((-pp)) W
      cases hw : withinB ((-pp)) (-1000) 1000
      · simp only [hw] at C91
        have C91 := Lib.hid C91
        have hno := Hno.out hw
        have Hf := Lib.hid (show RetAt (chV (fun p => -p) l) (chErr (fun p => -p) l) w (.returned (.tuple #[.slice none 0 0, .int .i64 1])) (wr.alloc (.cells #[.int .i64 (-pp), .int .i64 mm] 50)) by
          unfold chV chErr; rw [hno]; exact retAt_nil hEa)
        clear hw hno HN Hno
        go_wp2_with fail
        refine (CF.out _).mono ?_
        rintro e w' ⟨rfl, rfl⟩
        go_wp2_with fail
        refine (C91.out _).mono ?_
        rintro e w' ⟨rfl, rfl⟩
        go_wp2_with fail
        go_ret2
        exact Hf.out
      · simp only [hw] at C91
        have C91 := Lib.hid C91
        have HN := Lib.hid (HN.out hw)
        clear hw Hno
        go_wp2_with fail
        refine (CF.out _).mono ?_
        rintro e w' ⟨rfl, rfl⟩
        go_wp2_with fail
        refine (C91.out _).mono ?_
        rintro e w' ⟨rfl, rfl⟩
        go_wp2_with (at_builtin; refine wpList_append_any _ rfl (.tmp 24) (.tmp 26) 22 rfl w.heap.size 50 i0 _ 2 16 Try.underlying22 Hi.out.1 Hi.out.2.1 Hi.out.2.2.1 Hi.out.2.2.2 rfl (by omega) _ k _ rfl (Ha.out.alloc _) _ (some ⟨wr.heap.size + 1, 0, none⟩) 1 1 (atomV [⟨(-pp), mm⟩]) rfl (by have := Hn.out; simp only [World.size_alloc] at this ⊢; exact this) (atomV_one_cell _) (by unfold maxLen; omega) (by omega) (by simp; omega) ?_; intro v' w5 hown hgrow hat; have hE5 := ext_append hEa Ha.out (Nat.le_refl _) hgrow; rw [← atomV_append, ← Ht.out] at hown; have H5 := Lib.hid hown; clear hat hgrow hown)
        go_roundw
        case rel => exact ⟨k + 1, by omega, by go_num, hE5, H5, HN⟩
        case measure => simp [intOf]; omega
    · obtain rfl : k = l.length := by omega
      have hok : chOk (fun p => -p) l = true := chOk_yes fun j hj => HO.out j hj hj
      have H2 := H.out
      rw [List.take_length] at H2
      obtain ⟨ax, cx, e⟩ := slice_form H2
      subst e
      have hl2 : l.length = (chL (fun p => -p) l).length := (chL_len _ _).symm
      have Hf := Lib.hid (show RetAt (chV (fun p => -p) l) (chErr (fun p => -p) l) w (.returned (.tuple #[.slice ax l.length cx, .int .i64 0])) wr by
        unfold chV chErr; rw [hok]; refine ⟨ax, cx, by simp [chL_len], ?_, hE⟩; simp only [if_true]; rw [chL_len]; exact H2)
      clear H2 H hok HO hl2
      go_wp2_with fail
      go_ret2
      exact Hf.out

end Go.Proofs.Ytfhgnmijigdlmaa
