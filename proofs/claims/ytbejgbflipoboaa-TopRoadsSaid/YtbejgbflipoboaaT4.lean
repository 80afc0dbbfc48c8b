/- Contracts of roads: what leaves each node; Excess, CheckFlow. -/
import Derived.OwnWalk
import Derived.Test.YtbejgbflipoboaaT3
namespace Go.Proofs.Ytbejgbflipoboaa
open Go.RowKit
attribute [local go_sem] GW.cell
theorem info3 : (Try.prog.info? 3).map (fun i => (i.zero, i.size, i.bytes)) = some (some (.int .i64 0), 1, 8) := by kernel_rfl
theorem made_one (z : Value) (n : Nat) : (madeCells #[z] (n * 1)).toList = List.replicate n z := by
  apply List.ext_getElem (by simp [madeCells])
  intro i h1 h2
  simp [madeCells, Nat.mod_one]
/-- a list of numbers in a block of the call's own -/
def OwnI (W : World) (B n : Nat) (l : List Int) : Prop := W.ownsRow B 3 1 (.slice (some ⟨B, 0, none⟩) n n) n (l.map (.int .i64))
theorem OwnI.cell {W : World} {B n i : Nat} {l : List Int} (h : OwnI W B n l) (hi : i < l.length) : W.cell? ⟨B, i, none⟩ = some (.int .i64 (gi l i)) := by
  refine (World.ownsRow.cellAt h i (by have := h.1; simp at this; omega)).trans ?_
  rw [List.getElem?_map, gi_at hi]; simp [hi]
theorem OwnI.store {W : World} {B n : Nat} {l : List Int} (h : OwnI W B n l) (i : Nat) (v : Int) : OwnI (W.setCell ⟨B, i, none⟩ (.int .i64 v)) B n (l.set i v) := by
  have hst := (World.ownsRow.stored h i (.int .i64 v)).1
  rw [← List.map_set] at hst
  exact hst
theorem OwnI.ext {W X : World} {B n : Nat} {l : List Int} (h : OwnI W B n l) (hE : Ext W X) : OwnI X B n l := row_ext h hE
theorem OwnI.froz {W : World} {B n : Nat} {l : List Int} (h : OwnI W B n l) (i : Nat) : W.frozen? ⟨B, i, none⟩ = false := World.ownsRow.frozenAt h i
theorem OwnI.len {W : World} {B n : Nat} {l : List Int} (h : OwnI W B n l) : l.length = n := by have := h.1; simp at this; omega
theorem OwnI.other {W : World} {B B' n : Nat} {l : List Int} (h : OwnI W B n l) (hne : B' ≠ B) (i : Nat) (u : Value) : OwnI (W.setCell ⟨B', i, none⟩ u) B n l :=
  row_set_other h (by simpa [Value.ownBlock] using hne) i u
theorem OwnI.ints {W : World} {B n : Nat} {l : List Int} (h : OwnI W B n l) : ∃ a c, Value.slice (some ⟨B, 0, none⟩) n n = .slice a l.length c ∧ Ints W a l := ints_of_row h
theorem own_slot {W : World} {B n : Nat} {l : List Int} (h : OwnI W B n l) : B < W.heap.size ∧ n ≤ n := by
  rcases h.2 with ⟨e, _⟩ | ⟨g', cap, cur, e, hb, hg, h1, _⟩
  · simp at e
  · simp at e
    obtain ⟨rfl, rfl, rfl⟩ := e
    exact ⟨(Array.getElem?_eq_some_iff.1 hg).1, Nat.le_refl _⟩
theorem addAt_neg (l : List Int) (i : Nat) (v : Int) : addAt l i (-v) = l.set i (gi l i - v) := rfl
set_option maxRecDepth 20000 in
set_option maxHeartbeats 8000000 in
theorem f59_c (N : Int) (a : Option Addr) (n c : Nat) (R : List Road) (a2 : Option Addr) (n2 c2 : Nat) (x : List Int) (w : World) (hl : Roads w a R) (hn : R.length = n) (hlen : n ≤ 140737488355328) (hx : Ints w a2 x) (hn2 : x.length = n2) (hlen2 : n2 ≤ 1000000) (hok : NetOk N R) (hf : flowB R x = true) :
    Calls Try.prog 59 #[.agg #[.int .i64 N, .slice a n c], .slice a2 n2 c2] w (RetI (leaveTo N.toNat R x R.length) w) := by
  subst hn hn2
  obtain ⟨M, rfl⟩ := Int.eq_ofNat_of_zero_le (show 0 ≤ N by have := hok.n1; omega)
  rw [Int.toNat_natCast]
  obtain ⟨i0, hi0⟩ := info_parts info3
  have Hi := Lib.hid hi0
  clear hi0
  obtain ⟨hle, hfl⟩ := flowB_ok hf
  have hM := hok.n1
  have h12 := hok.r12
  have hle2 : x.length ≤ R.length ∧ R.length ≤ x.length := by omega
  have Hbd := Lib.hid (fun k (hk : k ≤ R.length) i => leaveTo_bd (N := M) hok hfl k hk i)
  have Hfr := Lib.hid hok.fr
  have Hto := Lib.hid hok.to
  have Hne := Lib.hid hok.ne
  have Hfl := Lib.hid hfl
  have Hwd := Lib.hid hok.wd
  clear hle hfl hf hok
  have hE0 := ext_alloc w (.cells #[.int .i64 (M : Int), .slice a R.length c] 24)
  have HB := Lib.hid (BlkC.new w #[.int .i64 (M : Int), .slice a R.length c] 24)
  have hz := HB.out.lt
  have g0 := HB.out.cellv 0 (v := .int .i64 (M : Int)) rfl
  have g1 := HB.out.cellv 1 (v := .slice a R.length c) rfl
  go_enter Try.func59, Try.ntmps59
  go_wp2_with (at_make; refine wpList_make_full _ rfl (.tmp 9) (.tmp 9) 25 rfl (w.heap.size + 1) 3 i0 (.int .i64 0) 1 Try.underlying25 Hi.out.1 Hi.out.2.1 Hi.out.2.2.1 .i64 .i64 M M M rfl rfl rfl rfl (by rw [Hi.out.2.2.2]; omega) (by unfold maxLen; omega) (by simp) ?_; intro w1 hrow hgrow; have hX1 := (Below.refl _ (w.alloc (.cells #[.int .i64 (M : Int), .slice a R.length c] 24))).grown hgrow (Nat.le_refl _) (by simp); rw [show (w.alloc (.cells #[.int .i64 (M : Int), .slice a R.length c] 24)).heap.size = w.heap.size + 1 by simp] at hrow; have g1w := (HB.out.ext hX1).cellv 1 (v := .slice a R.length c) rfl; have hz1 := (HB.out.ext hX1).lt; rw [show (Value.int IntKind.i64 0).cells = #[.int .i64 0] from rfl, made_one] at hrow; have Hrow := Lib.hid hrow; clear hrow hgrow)
  have hB0 : (w.alloc (.cells #[.int .i64 (M : Int), .slice a R.length c] 24)).heap.size ≤ w.heap.size + 1 ∧ w.heap.size + 1 ≤ (w.alloc (.cells #[.int .i64 (M : Int), .slice a R.length c] 24)).heap.size := by simp
  generalize (w.alloc (.cells #[.int .i64 (M : Int), .slice a R.length c] 24)) = w0 at *
  clear g1w hz1
  go_loopw [14] (fun i wr => ∃ k : Nat, k ≤ R.length ∧ i = .int .i64 k ∧ Ext w0 wr ∧ Hid (OwnI wr (w.heap.size + 1) M (leaveTo M R x k))) (fun i _ => R.length - (intOf i).toNat)
  case atStart => exact ⟨0, Nat.zero_le _, rfl, hX1, Lib.hid (by unfold OwnI; rw [leaveTo, List.map_replicate]; exact Hrow.out)⟩
  case round =>
    obtain ⟨k, hk, rfl, hX, H⟩ := hrel
    have hE := hE0.trans' hX
    clear g0 g1
    have g0 := (HB.out.ext hX).cellv 0 (v := .int .i64 (M : Int)) rfl
    have g1 := (HB.out.ext hX).cellv 1 (v := .slice a R.length c) rfl
    have hzr := (HB.out.ext hX).lt
    have hBr : (w.heap.size + 1) < wr.heap.size := (own_slot H.out).1
    by_cases hlt : k < R.length
    case neg =>
      obtain rfl : k = R.length := by omega
      obtain ⟨ad, cp, he, hI⟩ := H.out.ints
      have HR : Hid (RetI (leaveTo M R x R.length) w (.returned (.slice (some ⟨(w.heap.size + 1), 0, none⟩) M M)) wr) := Lib.hid ⟨ad, cp, by rw [he], hI, hE⟩
      clear he hI
      go_wp2_with fail
      go_ret
      exact HR.out
    have hltx : k < x.length := by omega
    obtain ⟨b, off, rfl, hb, c1, c2', c3, c4⟩ := hl.ext hE k hlt
    obtain ⟨b2, o2, rfl, hb2, hc2⟩ := hx.ext hE k hltx
    rw [gi_def] at hc2
    have Hs : Hid (leaveTo M R x (k + 1) = addAt (addAt (leaveTo M R x k) R[k].fr.toNat (gi x k)) R[k].to.toNat (-gi x k)) := Lib.hid (by rw [leaveTo, rdK_at hlt])
    have hL := leaveTo_length M R x k
    have Hbk := Lib.hid (Hbd.out k hk)
    have b2' := Hfr.out k hlt
    have b3 := Hto.out k hlt
    have b6 := Hne.out k hlt
    have b4 := Hfl.out k hlt
    have b5 := Hwd.out k hlt
    rw [rdK_at hlt] at b4
    have HC0 := Lib.hid (BlkC.new wr #[.int .i64 R[k].fr, .int .i64 R[k].to, .int .i64 R[k].ln, .int .i64 R[k].wd] 55)
    have hXA := ext_alloc wr (.cells #[.int .i64 R[k].fr, .int .i64 R[k].to, .int .i64 R[k].ln, .int .i64 R[k].wd] 55)

    have HR1 := Lib.hid (hl.ext hE k hlt)
    generalize leaveTo M R x k = L at *
    generalize hv : gi x k = v at *
    have Hv := Lib.hid hv
    clear hv
    generalize R[k].ln = ln at *
    generalize R[k].wd = wd at *
    generalize R[k].fr = fr at *
    generalize hto : R[k].to = to at *
    have Ht := Lib.hid hto
    clear hto
    obtain ⟨p, rfl⟩ := Int.eq_ofNat_of_zero_le b2'.1
    obtain ⟨q, rfl⟩ := Int.eq_ofNat_of_zero_le b3.1
    rw [Int.toNat_natCast, Int.toNat_natCast, addAt_neg] at Hs
    have hp : p < L.length := by omega
    have hq : q < L.length := by omega
    have l1 := H.out.cell hp
    have Hq1 : Hid (gi (addAt L p v) q = gi L q) := Lib.hid (by rw [gi_addAt hp, if_neg (by omega)]; omega)
    rw [Hq1.out] at Hs
    have n1 := Hbk.out p
    have n2 := Hbk.out q
    have hqL : Hid (q < (addAt L p v).length) := Lib.hid (by rw [addAt_length]; exact hq)
    have HSt : Hid (∀ W, OwnI W (w.heap.size + 1) M L → OwnI (W.setCell ⟨(w.heap.size + 1), p, none⟩ (.int .i64 (gi L p + v))) (w.heap.size + 1) M (addAt L p v)) := Lib.hid (fun W h => h.store p _)
    have HSu : Hid (∀ W, OwnI W (w.heap.size + 1) M (addAt L p v) → OwnI (W.setCell ⟨(w.heap.size + 1), q, none⟩ (.int .i64 (gi L q - v))) (w.heap.size + 1) M ((addAt L p v).set q (gi L q - v))) := Lib.hid (fun W h => h.store q _)
    generalize gi L p = A1 at *
    clear Hbk HR1 Hbd Hfr Hto Hne Hfl Hwd
    go_wp2_with fail
    refine wp_region_ext_tail 11 (by kernel_rfl) (by kernel_rfl) ?_
    simp only [List.take_succ_cons, List.take_zero, List.drop_succ_cons, List.drop_zero]
    repeat (go_big_quiet_step (fail))
    refine wpQuiet_nil ?_
    intro w9 hX9
    have hY := hX.trans' (hXA.trans' hX9)
    have HO9 := Lib.hid (H.out.ext (hXA.trans' hX9))
    have HC9 := Lib.hid (HC0.out.ext hX9)
    have hz9 := HC9.out.lt
    have z9 := (own_slot HO9.out).1
    have f9 := HO9.out.froz p
    have l9 := HO9.out.cell hp
    clear g0 g1 l1 hc2 c1 c2' c3 c4
    have HO10 := Lib.hid (HSt.out _ HO9.out)
    have hY10 : Ext w0 _ := hY.setCell (p := ⟨(w.heap.size + 1), p, none⟩) hB0.1 (.int .i64 (A1 + v))
    have hE10 := hE0.trans' hY10
    have r1 := (HC9.out.other (B' := (w.heap.size + 1)) (by omega) p (.int .i64 (A1 + v))).cellv 1 (v := .int .i64 (q : Int)) rfl
    have hz10 : wr.heap.size < (w9.setCell ⟨(w.heap.size + 1), p, none⟩ (.int .i64 (A1 + v))).heap.size := by simp; omega
    obtain ⟨b2', o2', he2', hb2', hc2⟩ := hx.ext hE10 k hltx
    simp only [Option.some.injEq, Addr.mk.injEq, and_true] at he2'
    obtain ⟨rfl, rfl⟩ := he2'
    rw [gi_def, Hv.out] at hc2
    have z10 := (own_slot HO10.out).1
    have l10 := HO10.out.cell hqL.out
    rw [Hq1.out] at l10
    go_wp2_with fail
    generalize hW : w9.setCell ⟨(w.heap.size + 1), p, none⟩ (.int .i64 (A1 + v)) = W1 at *
    clear hW f9 l9 z9
    generalize gi L q = A2 at *
    refine wp_region_ext_tail 11 (by kernel_rfl) (by kernel_rfl) ?_
    simp only [List.take_succ_cons, List.take_zero, List.drop_succ_cons, List.drop_zero]
    repeat (go_big_quiet_step (fail))
    refine wpQuiet_nil ?_
    intro w11 hX11
    have HO11 := Lib.hid (HO10.out.ext hX11)
    have f11 := HO11.out.froz q
    have z11 := (own_slot HO11.out).1
    have l11 := HO11.out.cell hqL.out
    have HO12 := Lib.hid (HSu.out _ HO11.out)
    have hY12 := (hY10.trans' hX11).setCell (p := ⟨(w.heap.size + 1), q, none⟩) hB0.1 (.int .i64 (A2 - v))
    go_wp2_with fail
    go_roundw
    case rel => exact ⟨k + 1, by omega, by go_num, hY12, by rw [Hs.out]; exact HO12⟩
    case measure => simp [intOf]; omega
set_option maxRecDepth 20000 in
set_option maxHeartbeats 8000000 in
theorem f62_c (N : Int) (a : Option Addr) (n c : Nat) (R : List Road) (a2 : Option Addr) (n2 c2 : Nat) (x : List Int) (w : World) (hl : Roads w a R) (hn : R.length = n) (hlen : n ≤ 140737488355328) (hx : Ints w a2 x) (hn2 : x.length = n2) (hlen2 : n2 ≤ 1000000) (hok : NetOk N R) (hf : flowB R x = true) :
    Calls Try.prog 62 #[.agg #[.int .i64 N, .slice a n c], .slice a2 n2 c2] w (RetI (leaveTo N.toNat R x R.length) w) := by
  subst hn hn2
  obtain ⟨M, rfl⟩ := Int.eq_ofNat_of_zero_le (show 0 ≤ N by have := hok.n1; omega)
  rw [Int.toNat_natCast]
  obtain ⟨i0, hi0⟩ := info_parts info3
  have Hi := Lib.hid hi0
  clear hi0
  obtain ⟨hle, hfl⟩ := flowB_ok hf
  have hM := hok.n1
  have h12 := hok.r12
  have hle2 : x.length ≤ R.length ∧ R.length ≤ x.length := by omega
  have Hbd := Lib.hid (fun k (hk : k ≤ R.length) i => leaveTo_bd (N := M) hok hfl k hk i)
  have Hfr := Lib.hid hok.fr
  have Hto := Lib.hid hok.to
  have Hne := Lib.hid hok.ne
  have Hfl := Lib.hid hfl
  have Hwd := Lib.hid hok.wd
  clear hle hfl hf hok
  have hE0 := ext_alloc w (.cells #[.int .i64 (M : Int), .slice a R.length c] 24)
  have HB := Lib.hid (BlkC.new w #[.int .i64 (M : Int), .slice a R.length c] 24)
  have hz := HB.out.lt
  have g0 := HB.out.cellv 0 (v := .int .i64 (M : Int)) rfl
  have g1 := HB.out.cellv 1 (v := .slice a R.length c) rfl
  go_enter Try.func62, Try.ntmps62
  go_wp2_with (at_make; refine wpList_make_full _ rfl (.tmp 8) (.tmp 8) 25 rfl (w.heap.size + 1) 3 i0 (.int .i64 0) 1 Try.underlying25 Hi.out.1 Hi.out.2.1 Hi.out.2.2.1 .i64 .i64 M M M rfl rfl rfl rfl (by rw [Hi.out.2.2.2]; omega) (by unfold maxLen; omega) (by simp) ?_; intro w1 hrow hgrow; have hX1 := (Below.refl _ (w.alloc (.cells #[.int .i64 (M : Int), .slice a R.length c] 24))).grown hgrow (Nat.le_refl _) (by simp); rw [show (w.alloc (.cells #[.int .i64 (M : Int), .slice a R.length c] 24)).heap.size = w.heap.size + 1 by simp] at hrow; have g1w := (HB.out.ext hX1).cellv 1 (v := .slice a R.length c) rfl; have hz1 := (HB.out.ext hX1).lt; rw [show (Value.int IntKind.i64 0).cells = #[.int .i64 0] from rfl, made_one] at hrow; have Hrow := Lib.hid hrow; clear hrow hgrow)
  have hB0 : (w.alloc (.cells #[.int .i64 (M : Int), .slice a R.length c] 24)).heap.size ≤ w.heap.size + 1 ∧ w.heap.size + 1 ≤ (w.alloc (.cells #[.int .i64 (M : Int), .slice a R.length c] 24)).heap.size := by simp
  generalize (w.alloc (.cells #[.int .i64 (M : Int), .slice a R.length c] 24)) = w0 at *
  clear g1w hz1
  go_loopw [6] (fun i wr => ∃ k : Nat, k ≤ R.length ∧ i = .int .i64 k ∧ Ext w0 wr ∧ Hid (OwnI wr (w.heap.size + 1) M (leaveTo M R x k))) (fun i _ => R.length - (intOf i).toNat)
  case atStart => exact ⟨0, Nat.zero_le _, rfl, hX1, Lib.hid (by unfold OwnI; rw [leaveTo, List.map_replicate]; exact Hrow.out)⟩
  case round =>
    obtain ⟨k, hk, rfl, hX, H⟩ := hrel
    have hE := hE0.trans' hX
    clear g0 g1
    have g0 := (HB.out.ext hX).cellv 0 (v := .int .i64 (M : Int)) rfl
    have g1 := (HB.out.ext hX).cellv 1 (v := .slice a R.length c) rfl
    have hzr := (HB.out.ext hX).lt
    have hBr : (w.heap.size + 1) < wr.heap.size := (own_slot H.out).1
    by_cases hlt : k < R.length
    case neg =>
      obtain rfl : k = R.length := by omega
      obtain ⟨ad, cp, he, hI⟩ := H.out.ints
      have HR : Hid (RetI (leaveTo M R x R.length) w (.returned (.slice (some ⟨(w.heap.size + 1), 0, none⟩) M M)) wr) := Lib.hid ⟨ad, cp, by rw [he], hI, hE⟩
      clear he hI
      go_wp2_with fail
      go_ret
      exact HR.out
    have hltx : k < x.length := by omega
    obtain ⟨b, off, rfl, hb, c1, c2', c3, c4⟩ := hl.ext hE k hlt
    obtain ⟨b2, o2, rfl, hb2, hc2⟩ := hx.ext hE k hltx
    rw [gi_def] at hc2
    have Hs : Hid (leaveTo M R x (k + 1) = addAt (addAt (leaveTo M R x k) R[k].fr.toNat (gi x k)) R[k].to.toNat (-gi x k)) := Lib.hid (by rw [leaveTo, rdK_at hlt])
    have hL := leaveTo_length M R x k
    have Hbk := Lib.hid (Hbd.out k hk)
    have b2' := Hfr.out k hlt
    have b3 := Hto.out k hlt
    have b6 := Hne.out k hlt
    have b4 := Hfl.out k hlt
    have b5 := Hwd.out k hlt
    rw [rdK_at hlt] at b4
    have HR1 := Lib.hid (hl.ext hE k hlt)
    generalize leaveTo M R x k = L at *
    generalize hv : gi x k = v at *
    have Hv := Lib.hid hv
    clear hv
    generalize R[k].ln = ln at *
    generalize R[k].wd = wd at *
    generalize R[k].fr = fr at *
    generalize hto : R[k].to = to at *
    have Ht := Lib.hid hto
    clear hto
    obtain ⟨p, rfl⟩ := Int.eq_ofNat_of_zero_le b2'.1
    obtain ⟨q, rfl⟩ := Int.eq_ofNat_of_zero_le b3.1
    rw [Int.toNat_natCast, Int.toNat_natCast, addAt_neg] at Hs
    have hp : p < L.length := by omega
    have hq : q < L.length := by omega
    have l1 := H.out.cell hp
    have Hq1 : Hid (gi (addAt L p v) q = gi L q) := Lib.hid (by rw [gi_addAt hp, if_neg (by omega)]; omega)
    rw [Hq1.out] at Hs
    have n1 := Hbk.out p
    have n2 := Hbk.out q
    have hqL : Hid (q < (addAt L p v).length) := Lib.hid (by rw [addAt_length]; exact hq)
    have HSt : Hid (∀ W, OwnI W (w.heap.size + 1) M L → OwnI (W.setCell ⟨(w.heap.size + 1), p, none⟩ (.int .i64 (gi L p + v))) (w.heap.size + 1) M (addAt L p v)) := Lib.hid (fun W h => h.store p _)
    have HSu : Hid (∀ W, OwnI W (w.heap.size + 1) M (addAt L p v) → OwnI (W.setCell ⟨(w.heap.size + 1), q, none⟩ (.int .i64 (gi L q - v))) (w.heap.size + 1) M ((addAt L p v).set q (gi L q - v))) := Lib.hid (fun W h => h.store q _)
    generalize gi L p = A1 at *
    clear Hbk HR1 Hbd Hfr Hto Hne Hfl Hwd
    go_wp2_with fail
    refine wp_region_ext_tail 15 (by kernel_rfl) (by kernel_rfl) ?_
    simp only [List.take_succ_cons, List.take_zero, List.drop_succ_cons, List.drop_zero]
    repeat (go_big_quiet_step (fail))
    refine wpQuiet_nil ?_
    intro w9 hX9
    have hY := hX.trans' hX9
    have HO9 := Lib.hid (H.out.ext hX9)
    have z9 := (own_slot HO9.out).1
    have f9 := HO9.out.froz p
    have l9 := HO9.out.cell hp
    clear g0 g1 l1 hc2 c1 c2' c3 c4
    have HO10 := Lib.hid (HSt.out _ HO9.out)
    have hY10 : Ext w0 _ := hY.setCell (p := ⟨(w.heap.size + 1), p, none⟩) hB0.1 (.int .i64 (A1 + v))
    have hE10 := hE0.trans' hY10
    have g1 := (HB.out.ext hY10).cellv 1 (v := .slice (some ⟨b, off, none⟩) R.length c) rfl
    have hzb := (HB.out.ext hY10).lt
    obtain ⟨b', off', he', hbx, cc1, cc2, cc3, cc4⟩ := hl.ext hE10 k hlt
    simp only [Option.some.injEq, Addr.mk.injEq, and_true] at he'
    obtain ⟨rfl, rfl⟩ := he'
    rw [Ht.out] at cc2
    obtain ⟨b2', o2', he2', hb2', hc2⟩ := hx.ext hE10 k hltx
    simp only [Option.some.injEq, Addr.mk.injEq, and_true] at he2'
    obtain ⟨rfl, rfl⟩ := he2'
    rw [gi_def, Hv.out] at hc2
    have z10 := (own_slot HO10.out).1
    have l10 := HO10.out.cell hqL.out
    rw [Hq1.out] at l10
    go_wp2_with fail
    generalize hW : w9.setCell ⟨(w.heap.size + 1), p, none⟩ (.int .i64 (A1 + v)) = W1 at *
    clear hW f9 l9 z9
    generalize gi L q = A2 at *
    refine wp_region_ext_tail 15 (by kernel_rfl) (by kernel_rfl) ?_
    simp only [List.take_succ_cons, List.take_zero, List.drop_succ_cons, List.drop_zero]
    repeat (go_big_quiet_step (fail))
    refine wpQuiet_nil ?_
    intro w11 hX11
    have HO11 := Lib.hid (HO10.out.ext hX11)
    have f11 := HO11.out.froz q
    have z11 := (own_slot HO11.out).1
    have l11 := HO11.out.cell hqL.out
    have HO12 := Lib.hid (HSu.out _ HO11.out)
    have hY12 := (hY10.trans' hX11).setCell (p := ⟨(w.heap.size + 1), q, none⟩) hB0.1 (.int .i64 (A2 - v))
    go_wp2_with fail
    go_roundw
    case rel => exact ⟨k + 1, by omega, by go_num, hY12, by rw [Hs.out]; exact HO12⟩
    case measure => simp [intOf]; omega
end Go.Proofs.Ytbejgbflipoboaa
