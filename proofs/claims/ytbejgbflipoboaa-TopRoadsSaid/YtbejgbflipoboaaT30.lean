/- Contracts of roads: a round that makes a flow cheaper. -/
import Derived.Test.YtbejgbflipoboaaT29
import Derived.Test.YtbejgbflipoboaaT27
namespace Go.Proofs.Ytbejgbflipoboaa
open Go.RowKit
attribute [local go_sem] GW.cell
/-- the first q and the last q turned round -/
def revI (L : List Int) (q : Nat) : List Int := (List.range L.length).map fun k => if k < q ∨ L.length < k + q + 1 then gi L (L.length - 1 - k) else gi L k
theorem revI_len (L : List Int) (q : Nat) : (revI L q).length = L.length := by simp [revI]
theorem revI_zero (L : List Int) : revI L 0 = L := by
  refine List.ext_getElem (by simp [revI]) fun k h1 h2 => ?_
  simp only [revI, List.getElem_map, List.getElem_range]
  rw [if_neg (by omega), gi_at h2]
theorem revI_end (L : List Int) {q : Nat} (h : L.length ≤ 2 * q + 1) : revI L q = L.reverse := by
  refine List.ext_getElem (by simp [revI]) fun k h1 h2 => ?_
  rw [List.length_reverse] at h2
  simp only [revI, List.getElem_map, List.getElem_range, List.getElem_reverse]
  by_cases hc : k < q ∨ L.length < k + q + 1
  · rw [if_pos hc, gi_at (by omega)]
  · rw [if_neg hc, gi_at h2]
    congr 1; omega
theorem revI_at1 {L : List Int} {q : Nat} (h : 2 * q + 1 < L.length) : (revI L q)[q]'(by rw [revI_len]; omega) = gi L q := by
  simp only [revI, List.getElem_map, List.getElem_range]
  rw [if_neg (by omega)]
theorem revI_at2 {L : List Int} {q : Nat} (h : 2 * q + 1 < L.length) : (revI L q)[L.length - 1 - q]'(by rw [revI_len]; omega) = gi L (L.length - 1 - q) := by
  simp only [revI, List.getElem_map, List.getElem_range]
  rw [if_neg (by omega)]
theorem revI_step {L : List Int} {q : Nat} (h : 2 * q + 1 < L.length) : ((revI L q).set q (gi L (L.length - 1 - q))).set (L.length - 1 - q) (gi L q) = revI L (q + 1) := by
  refine List.ext_getElem (by simp [revI]) fun k h1 h2 => ?_
  rw [revI_len] at h2
  rw [List.getElem_set, List.getElem_set]
  by_cases e1 : L.length - 1 - q = k
  · rw [if_pos e1]
    simp only [revI, List.getElem_map, List.getElem_range]
    rw [if_pos (by omega)]
    congr 1; omega
  · rw [if_neg e1]
    by_cases e2 : q = k
    · rw [if_pos e2]
      simp only [revI, List.getElem_map, List.getElem_range]
      rw [if_pos (by omega), e2]
    · rw [if_neg e2]
      simp only [revI, List.getElem_map, List.getElem_range]
      by_cases hc : k < q ∨ L.length < k + q + 1
      · rw [if_pos hc, if_pos (by omega)]
      · rw [if_neg hc, if_neg (by omega)]
theorem grown_trans {a b c : World} {row : Option Nat} (h1 : a.grownBy b row) (h2 : b.grownBy c row) : a.grownBy c row :=
  ⟨h2.os.trans h1.os, h2.tape.trans h1.tape, h2.output.trans h1.output, Nat.le_trans h1.size h2.size, fun i hi hne => (h2.block i (Nat.lt_of_lt_of_le hi h1.size) hne).trans (h1.block i hi hne)⟩
set_option maxRecDepth 20000 in
set_option maxHeartbeats 8000000 in
theorem f91_c {w : World} {base n : Nat} {v : Value} {L : List Int} (h : w.ownsRow base 3 1 v n (L.map (.int .i64))) (hlen : n ≤ 1000) :
    Calls Try.prog 91 #[v] w fun e w' => e = .returned (.tuple #[]) ∧ w'.ownsRow base 3 1 v n (L.reverse.map (.int .i64)) ∧ w.grownBy w' v.ownBlock := by
  have hn : L.length = n := by have := h.1; rw [List.length_map] at this; omega
  subst hn
  have hl0 := h
  obtain ⟨av, cv, rfl⟩ := slice_form h
  have H0 := Lib.hid (show w.ownsRow base 3 1 (.slice av L.length cv) L.length ((revI L 0).map (.int .i64)) by rw [revI_zero]; exact h)
  clear h hl0
  go_enter Try.func91, Try.ntmps91
  go_wp2_with fail
  go_loopw [2, 3] (fun i j wr => ∃ q : Nat, 2 * q ≤ L.length ∧ i = .int .i64 q ∧ j = .int .i64 ((L.length : Int) - 1 - q) ∧ w.grownBy wr (Value.slice av L.length cv).ownBlock ∧ Hid (wr.ownsRow base 3 1 (.slice av L.length cv) L.length ((revI L q).map (.int .i64)))) (fun i j _ => (intOf j - intOf i + 1).toNat)
  case atStart => exact ⟨0, by omega, rfl, by congr 1 <;> omega, World.grownBy.refl _ _, H0⟩
  case round =>
    obtain ⟨q, hq, rfl, rfl, hG, H⟩ := hrel
    by_cases hlt : 2 * q + 1 < L.length
    · have hlt2 : (q : Int) < (L.length : Int) - 1 - q := by omega
      obtain ⟨g, cap, he, hg1, hg2⟩ := ownsRow_form H.out (by omega)
      simp only [Value.slice.injEq, true_and] at he
      obtain ⟨rfl, rfl⟩ := he
      obtain ⟨j, hj⟩ : ∃ j, j = L.length - 1 - q := ⟨_, rfl⟩
      have hjl : j < (revI L q).length := by rw [revI_len]; omega
      have hql : q < (revI L q).length := by rw [revI_len]; omega
      have a1 : ((revI L q).map (Value.int .i64))[q]? = some (.int .i64 (gi L q)) := by rw [List.getElem?_map, List.getElem?_eq_getElem hql, revI_at1 hlt]; rfl
      have a2 : ((revI L q).map (Value.int .i64))[j]? = some (.int .i64 (gi L j)) := by subst hj; rw [List.getElem?_map, List.getElem?_eq_getElem hjl, revI_at2 hlt]; rfl
      have c1 := (H.out.cellAt q (by omega)).trans a1
      have c2 := (H.out.cellAt j (by omega)).trans a2
      have fz := fun i => H.out.frozenAt i
      have hji : (L.length : Int) - 1 - q = (j : Int) := by omega
      rw [hji]
      have hst := Lib.hid (revI_step hlt)
      rw [← hj] at hst
      have hj1 : j < L.length := by omega
      have hj2 : q < j := by omega
      have hql2 : q < L.length := by omega
      have hlt3 : (q : Int) < (j : Int) := by omega
      have Hj := Lib.hid hj
      clear hlt2 hj a1 a2 hjl hql hji
      have n1 : ((q : Int) = (j : Int)) = False := by simp; omega
      have hgg : g < wr.heap.size := hg2
      go_wp2_with fail
      go_region
      obtain ⟨H5a, G5a⟩ := H.out.stored q (.int .i64 (gi L j))
      obtain ⟨H5, G5b⟩ := H5a.stored j (.int .i64 (gi L q))
      rw [← List.map_set, ← List.map_set, hst.out] at H5
      have G5 := grown_trans hG (grown_trans G5a G5b)
      clear H5a G5a G5b hst
      generalize (wr.setCell ⟨g, q, none⟩ (.int .i64 (gi L j))).setCell ⟨g, j, none⟩ (.int .i64 (gi L q)) = w7 at *
      have H6 := Lib.hid (row_ext H5 (ext_drew _))
      have G6 := grown_trans G5 (row := (Value.slice (some ⟨g, 0, none⟩) L.length cv).ownBlock) (c := w7.drew) ⟨rfl, rfl, rfl, Nat.le_refl _, fun _ _ _ => rfl⟩
      clear H5 G5
      have Hjq : Hid ((j : Int) - 1 = (L.length : Int) - 1 - ((q + 1 : Nat) : Int)) := Lib.hid (by have := Hj.out; omega)
      go_wp2_with fail
      go_roundw
      case rel => exact ⟨q + 1, by omega, by go_num, by rw [Hjq.out], G6, H6⟩
      case measure => simp [intOf]; omega
    · have hlt2 : ¬ (q : Int) < (L.length : Int) - 1 - q := by omega
      have Hr : Hid (wr.ownsRow base 3 1 (.slice av L.length cv) L.length (L.reverse.map (.int .i64))) := Lib.hid (by rw [← revI_end L (q := q) (by omega)]; exact H.out)
      have HG := Lib.hid hG
      go_wp2_with fail
      go_end0
      exact ⟨rfl, by rw [← List.map_reverse]; exact Hr.out, HG.out⟩
def lenV : Value → Nat
  | .slice _ n _ => n
  | _ => 0
/-- what round finds -/
def RoundOf (M : Nat) (R : List Road) (f l : List Int) : Prop := (l = [] ∧ (rndS M R f).last < 0) ∨ (0 ≤ (rndS M R f).last ∧ ∃ v l0, RndGo M R f v l0 ∧ l = l0.reverse)
def RetRound (M : Nat) (R : List Road) (f : List Int) (w : World) (e : Ending) (w' : World) : Prop :=
  ∃ a c l, e = .returned (.slice a l.length c) ∧ Ints w' a l ∧ RoundOf M R f l ∧ Ext w w'
theorem take_push {l : List Int} {q : Nat} (h : q < l.length) : l.take q ++ [l[q]] = l.take (q + 1) := by rw [List.take_succ_eq_append_getElem h]
set_option maxRecDepth 20000 in
set_option maxHeartbeats 8000000 in
theorem f78_c (M : Nat) (a : Option Addr) (n c : Nat) (R : List Road) (a2 : Option Addr) (n2 c2 : Nat) (f : List Int) (w : World) (hl : Roads w a R) (hn : R.length = n) (hok : NetOk (M : Int) R) (hx : Ints w a2 f) (hn2 : f.length = n2) (hle : f.length = R.length) :
    Calls Try.prog 78 #[.agg #[.int .i64 (M : Int), .slice a n c], .slice a2 n2 c2] w (RetRound M R f w) := by
  subst hn hn2
  obtain ⟨i0, hi0⟩ := info_parts info3
  have Hi := Lib.hid hi0
  clear hi0
  have hE0 := ext_alloc w (.cells #[.int .i64 (M : Int), .slice a R.length c] 24)
  have HB := Lib.hid (BlkC.new w #[.int .i64 (M : Int), .slice a R.length c] 24)
  have hz := HB.out.lt
  have g0 := HB.out.cellv 0 (v := .int .i64 (M : Int)) rfl
  have g1 := HB.out.cellv 1 (v := .slice a R.length c) rfl
  have hM := hok.n1
  have Hok := Lib.hid hok
  have HLl := Lib.hid hle
  clear hle hok
  go_enter Try.func78, Try.ntmps78
  go_upto_region 1 with fail
  generalize (w.alloc (.cells #[.int .i64 (M : Int), .slice a R.length c] 24)) = w0 at *
  go_region_held3 (fun w' => w'.cell? ⟨w.heap.size, 0, none⟩ = some (.int .i64 (M : Int)) ∧ w'.cell? ⟨w.heap.size, 1, none⟩ = some (.slice a R.length c)) (first | assumption | exact ⟨by assumption, by assumption⟩ | go_keep)
    (first
      | (refine upon_make w0.heap.size 3 i0 (.int .i64 0) 1 Try.underlying25 Hi.out.1 Hi.out.2.1 Hi.out.2.2.1 (by rw [Hi.out.2.2.2]; omega) (by unfold maxLen; omega) (ext_drew _).size ?_
         intro wm hom hgrow
         have hXm : Ext w0 wm := (ext_drew _).trans' ((Below.refl _ _).grown hgrow (Nat.le_refl _) (by simp))
         have gm0 := (HB.out.ext hXm).cellv 0 (v := .int .i64 (M : Int)) rfl
         have gm1 := (HB.out.ext hXm).cellv 1 (v := .slice a R.length c) rfl)
      | (go_at_call 76
         refine (f76_c M a R.length c R a2 f.length c2 f w0.heap.size 0 M (List.replicate M 0) _ (hl.ext (hE0.trans' hXm)) rfl Hok.out (hx.ext (hE0.trans' hXm)) rfl HLl.out (made_own hom).ints (by simp) (fun i _ => by rw [gi_rep]; omega)).mono ?_
         rintro e w4 ⟨gA, cA, gB, rfl, _, hBy, _, hX4⟩
         have gq0 := (HB.out.ext (hXm.trans' hX4)).cellv 0 (v := .int .i64 (M : Int)) rfl
         have gq1 := (HB.out.ext (hXm.trans' hX4)).cellv 1 (v := .slice a R.length c) rfl))
  have HBy := Lib.hid hBy
  have hX5 := hXm.trans' hX4
  have hE5 := hE0.trans' hX5
  have Hgo := Lib.hid (fun h => rnd_go (f := f) Hok.out h)
  have HRd : Hid (∀ l, ((l = [] ∧ (reachR M R f (List.replicate M 0)).last < 0) ∨ (0 ≤ (reachR M R f (List.replicate M 0)).last ∧ ∃ v l0, RndGo M R f v l0 ∧ l = l0.reverse)) → RoundOf M R f l) := Lib.hid (fun l h => h)
  have HbN : Hid (∀ v k, backN R (rndS M R f).by_ v k = backN R (reachR M R f (List.replicate M 0)).by_ v k) := Lib.hid (fun v k => rfl)
  have Hgs : Hid (∀ {v l}, RndGo M R f v l → (∀ y, y < M → StepIn R.length (gi (reachR M R f (List.replicate M 0)).by_ (backN R (rndS M R f).by_ v y))) ∧ ∀ y, (h : y < l.length) → gi (reachR M R f (List.replicate M 0)).by_ (backN R (rndS M R f).by_ (backN R (rndS M R f).by_ v M) y) = l[y]) := Lib.hid (fun h => ⟨h.st, h.by_⟩)
  have Hstep : Hid (∀ v k, backN R (rndS M R f).by_ v (k + 1) = (stFr R (gi (reachR M R f (List.replicate M 0)).by_ (backN R (rndS M R f).by_ v k))).toNat) := Lib.hid (fun v k => rfl)
  have Hlast : Hid ((rndS M R f).last = (reachR M R f (List.replicate M 0)).last) := Lib.hid rfl
  have hbl := hBy.len
  clear hBy hom HbN gm0 gm1 g0 g1 hX4 hXm
  generalize (reachR M R f (List.replicate M 0)) = X at *
  generalize X.last = la at *
  by_cases hla : la < 0
  case pos =>
    have hd : decide (la < 0) = true := decide_eq_true hla
    have HR : Hid (RetRound M R f w (.returned (.slice none 0 0)) w4) := Lib.hid ⟨none, 0, [], rfl, ints_nil _ _, HRd.out _ (.inl ⟨rfl, hla⟩), hE5⟩
    clear hla HRd
    go_wp2_with fail
    go_ret
    exact HR.out
  obtain ⟨v, hv, hvl, l0, go⟩ := Hgo.out (by rw [Hlast.out]; omega)
  rw [Hlast.out] at hvl
  subst hvl
  have hd : decide ((v : Int) < 0) = false := decide_eq_false (by omega)
  have HRl : Hid (RoundOf M R f l0.reverse) := Lib.hid (HRd.out _ (.inr ⟨by omega, v, l0, go, rfl⟩))
  have Hg := Lib.hid go
  obtain ⟨hst, hby⟩ := Hgs.out go
  have Hst := Lib.hid hst
  have Hby := Lib.hid hby
  have hlen := go.len
  have hz5 := (HB.out.ext hX5).lt
  clear HRd Hgo Hgs Hlast hst hby go hla
  go_wp2_with fail
  obtain ⟨B, hB⟩ : ∃ B : Nat → Nat → Nat, B = backN R (rndS M R f).by_ := ⟨_, rfl⟩
  have HB0 : Hid (∀ u, B u 0 = u) := Lib.hid (fun u => by rw [hB]; rfl)
  rw [← hB] at Hst Hby Hstep
  have Hlt : Hid (∀ y, y ≤ M → B v y < M) := Lib.hid (fun y hy => by rw [hB]; exact Hg.out.lt y hy)
  have Hat : Hid (∀ y, y ≤ l0.length → B (B v M) y < M) := Lib.hid (fun y hy => by rw [hB]; exact Hg.out.at_ y hy)
  have Hback : Hid (B (B v M) l0.length = B v M) := Lib.hid (by rw [hB]; exact Hg.out.back)
  have Hnew : Hid (∀ y, 1 ≤ y → y < l0.length → B (B v M) y ≠ B v M) := Lib.hid (fun y h1 h2 => by rw [hB]; exact Hg.out.new y h1 h2)
  have Hin : Hid (∀ s ∈ l0, StepIn R.length s) := Lib.hid (fun s hs => Hg.out.in_ s hs)
  clear hB
  go_loopw [8, 26] (fun at_ i wr => ∃ k : Nat, k ≤ M ∧ i = .int .i64 k ∧ at_ = .int .i64 ((B v k : Nat) : Int) ∧ Ext w4 wr) (fun _ i _ => M - (intOf i).toNat)
  case atStart => exact ⟨0, Nat.zero_le _, rfl, by rw [HB0.out], Ext.rfl' _⟩
  case round =>
    obtain ⟨k, hk, rfl, rfl, hX6⟩ := hrel
    have hY6 := hX5.trans' hX6
    have hE6 := hE5.trans' hX6
    clear gq0 gq1
    have gq0 := (HB.out.ext hY6).cellv 0 (v := .int .i64 (M : Int)) rfl
    have gq1 := (HB.out.ext hY6).cellv 1 (v := .slice a R.length c) rfl
    have hz6 := (HB.out.ext hY6).lt
    have HBy6 := Lib.hid (HBy.out.ext hX6)
    have hg6 := HBy6.out.slot.1
    by_cases hlk : k < M
    case pos =>
      have hul := Hlt.out k (by omega)
      have hs := Hst.out k hlk
      have cb := HBy6.out.cell (i := B v k) (by omega)
      rw [gi_def] at cb
      have C73 := Lib.hid (fun x' : GW wr => f73_c (gi X.by_ (B v k)) (M : Int) a R.length c R x'.world (hl.ext (hE6.trans' x'.ext)) rfl Hok.out hs)
      have hfr := stFr_bd Hok.out hs
      have Hs1 := Lib.hid (Hstep.out v k)
      clear hs
      generalize B v k = u at *
      generalize gi X.by_ u = s at *
      generalize stFr R s = fr at *
      obtain ⟨p, rfl⟩ := Int.eq_ofNat_of_zero_le hfr.1
      rw [Int.toNat_natCast] at Hs1
      go_wp2_with fail
      refine wp_region_ext (by kernel_rfl) (by kernel_rfl) ?_
      repeat (go_big_quiet_step ((go_at_call 73; exact quiet_ext (C73.out _))))
      refine wpQuiet_nil ?_
      intro w7 hX7
      go_wp2_with fail
      go_roundw
      case rel => exact ⟨k + 1, by omega, by go_num, by rw [Hs1.out], hX6.trans' hX7⟩
      case measure => simp [intOf]; omega
    obtain rfl : k = M := by omega
    clear Hst Hlt hlk
    have HB1 := Lib.hid (HB0.out (B v k))
    obtain ⟨wk, rfl⟩ : ∃ wk : World, wk = wr := ⟨_, rfl⟩
    generalize B v k = b0 at *
    go_wp2_with fail
    go_loopw [8, 9] (fun at_ ov wr => ∃ q : Nat, q ≤ l0.length ∧ at_ = .int .i64 ((B b0 q : Nat) : Int) ∧ Ext wk wr ∧ Hid (wr.ownsRow wk.heap.size 3 1 ov q ((l0.take q).map (.int .i64)))) (fun _ ov _ => l0.length - lenV ov)
    case atStart => exact ⟨0, Nat.zero_le _, by rw [HB0.out], Ext.rfl' _, Lib.hid (World.ownsRow_nil _ _ _ _)⟩
    case round =>
      obtain ⟨q, hq, rfl, hX7, HO⟩ := hrel
      have hlk7 := hX7.size
      have hb0l := Hat.out 0 (Nat.zero_le _)
      obtain ⟨av, cv, e⟩ := slice_form HO.out
      subst e
      clear gq0 gq1 hz6 hg6
      have hY7 := hY6.trans' hX7
      have HBy7 := Lib.hid (HBy6.out.ext hX7)
      have hg7 := HBy7.out.slot.1
      by_cases hq0 : q = l0.length
      case pos =>
        subst hq0
        rw [Hback.out]
        have hd1 : ((l0.length : Int) == 0) = false := by rw [beq_eq_false_iff_ne]; omega
        have hd2 : ((b0 : Int) != (b0 : Int)) = false := by simp
        have hlen12 : l0.length ≤ 1000 := by omega
        have H7 : Hid (wr.ownsRow wk.heap.size 3 1 (.slice av l0.length cv) l0.length (l0.map (.int .i64))) := Lib.hid (by have := HO.out; rwa [List.take_length] at this)
        have hE7 := hE6.trans' hX7
        clear HO
        go_wp2_with fail
        refine (f91_c H7.out hlen12).mono ?_
        rintro e w8 ⟨rfl, hr8, hg8⟩
        have hE8 := ext_grow hE7 H7.out hE6.size hg8
        obtain ⟨a8, c8, e8, hi8⟩ := ints_of_row hr8
        have HR : Hid (RetRound k R f w (.returned (.slice av l0.length cv)) w8) := Lib.hid ⟨av, cv, l0.reverse, by rw [List.length_reverse], by
          injection e8 with e8 _ _
          rw [e8]; exact hi8, HRl.out, hE8⟩
        clear hr8 hg8 hi8 e8 hd1 hd2
        go_wp2_with fail
        go_ret
        exact HR.out
      by_cases hq1 : q = 0
      case pos =>
        have hd1 : ((q : Int) == 0) = true := by simp [hq1]
        clear hq1
        have hul := Hat.out q (by omega)
        have cb := HBy7.out.cell (i := B b0 q) (by omega)
        rw [gi_def] at cb
        have e1 := Hby.out q (by omega)
        have hs : StepIn R.length (gi X.by_ (B b0 q)) := by rw [e1]; exact Hin.out _ (List.getElem_mem _)
        have Hpu : Hid ((l0.take q ++ [gi X.by_ (B b0 q)]) = l0.take (q + 1)) := Lib.hid (by rw [e1]; exact take_push (by omega))
        have Hs1 := Lib.hid (Hstep.out b0 q)
        have C73 := Lib.hid (fun W (hW : Ext w W) => f73_c (gi X.by_ (B b0 q)) (k : Int) a R.length c R W (hl.ext hW) rfl Hok.out hs)
        have hfr := stFr_bd Hok.out hs
        clear hs e1
        generalize B b0 q = u at *
        generalize hgs : gi X.by_ u = s at *
        have Hgs := Lib.hid hgs
        clear hgs
        generalize stFr R s = fr at *
        obtain ⟨p, rfl⟩ := Int.eq_ofNat_of_zero_le hfr.1
        rw [Int.toNat_natCast] at Hs1
        go_wp2_with (at_builtin; refine wpList_push1 rfl (.tmp 48) (.tmp 53) 25 rfl Hi.out Try.underlying25 rfl rfl HO.out (by omega) hX7.size ?_; intro v8 w8 hown hgrow hat; have hX8 := ext_append hX7 HO.out (Nat.le_refl _) hgrow; rw [Hpu.out] at hown; obtain ⟨av8, cv8, rfl⟩ := slice_form hown; have H8 := Lib.hid hown; clear hown hgrow hat)
        have hE8 := hE6.trans' hX8
        have hY8 := hY6.trans' hX8
        have HBy8 := Lib.hid (HBy6.out.ext hX8)
        have hg8 := HBy8.out.slot.1
        have cb := HBy8.out.cell (i := u) (by omega)
        rw [gi_def, Hgs.out] at cb
        have gq0 := (HB.out.ext hY8).cellv 0 (v := .int .i64 (k : Int)) rfl
        have gq1 := (HB.out.ext hY8).cellv 1 (v := .slice a R.length c) rfl
        have hz8 := (HB.out.ext hY8).lt
        have C73' := Lib.hid (fun x' : GW w8 => C73.out x'.world (hE8.trans' x'.ext))
        refine wp_region_ext (by kernel_rfl) (by kernel_rfl) ?_
        repeat (go_big_quiet_step ((go_at_call 73; exact quiet_ext (C73'.out _))))
        refine wpQuiet_nil ?_
        intro w9 hX9
        go_wp2_with fail
        go_roundw
        case rel => exact ⟨q + 1, by omega, by rw [Hs1.out], hX8.trans' hX9, Lib.hid (row_ext H8.out hX9)⟩
        case measure => simp [lenV]; omega
      have hd1 : ((q : Int) == 0) = false := by simp; omega
      have hd2 : (((B b0 q : Nat) : Int) != (b0 : Int)) = true := by
        have := Hnew.out q (by omega) (by omega)
        simp; omega
      have hul := Hat.out q (by omega)
      have cb := HBy7.out.cell (i := B b0 q) (by omega)
      rw [gi_def] at cb
      have e1 := Hby.out q (by omega)
      have hs : StepIn R.length (gi X.by_ (B b0 q)) := by rw [e1]; exact Hin.out _ (List.getElem_mem _)
      have Hpu : Hid ((l0.take q ++ [gi X.by_ (B b0 q)]) = l0.take (q + 1)) := Lib.hid (by rw [e1]; exact take_push (by omega))
      have Hs1 := Lib.hid (Hstep.out b0 q)
      have C73 := Lib.hid (fun W (hW : Ext w W) => f73_c (gi X.by_ (B b0 q)) (k : Int) a R.length c R W (hl.ext hW) rfl Hok.out hs)
      have hfr := stFr_bd Hok.out hs
      clear hs e1
      generalize B b0 q = u at *
      generalize hgs : gi X.by_ u = s at *
      have Hgs := Lib.hid hgs
      clear hgs
      generalize stFr R s = fr at *
      obtain ⟨p, rfl⟩ := Int.eq_ofNat_of_zero_le hfr.1
      rw [Int.toNat_natCast] at Hs1
      go_wp2_with (at_builtin; refine wpList_push1 rfl (.tmp 48) (.tmp 53) 25 rfl Hi.out Try.underlying25 rfl rfl HO.out (by omega) hX7.size ?_; intro v8 w8 hown hgrow hat; have hX8 := ext_append hX7 HO.out (Nat.le_refl _) hgrow; rw [Hpu.out] at hown; obtain ⟨av8, cv8, rfl⟩ := slice_form hown; have H8 := Lib.hid hown; clear hown hgrow hat)
      have hE8 := hE6.trans' hX8
      have hY8 := hY6.trans' hX8
      have HBy8 := Lib.hid (HBy6.out.ext hX8)
      have hg8 := HBy8.out.slot.1
      have cb := HBy8.out.cell (i := u) (by omega)
      rw [gi_def, Hgs.out] at cb
      have gq0 := (HB.out.ext hY8).cellv 0 (v := .int .i64 (k : Int)) rfl
      have gq1 := (HB.out.ext hY8).cellv 1 (v := .slice a R.length c) rfl
      have hz8 := (HB.out.ext hY8).lt
      have C73' := Lib.hid (fun x' : GW w8 => C73.out x'.world (hE8.trans' x'.ext))
      refine wp_region_ext (by kernel_rfl) (by kernel_rfl) ?_
      repeat (go_big_quiet_step ((go_at_call 73; exact quiet_ext (C73'.out _))))
      refine wpQuiet_nil ?_
      intro w9 hX9
      go_wp2_with fail
      go_roundw
      case rel => exact ⟨q + 1, by omega, by rw [Hs1.out], hX8.trans' hX9, Lib.hid (row_ext H8.out hX9)⟩
      case measure => simp [lenV]; omega
/-- what Round hands back -/
def RetRd (N : Int) (R : List Road) (y x : List Int) (w : World) (e : Ending) (w' : World) : Prop :=
  ∃ a c l, e = .returned (.tuple #[.slice a l.length c, .bool (decide (0 < l.length)), .int .i64 (flowErr N R y x)]) ∧ Ints w' a l ∧ (flowErr N R y x ≠ 0 → l = []) ∧ (flowErr N R y x = 0 → RoundOf N.toNat R x l) ∧ Ext w w'
set_option maxRecDepth 20000 in
set_option maxHeartbeats 8000000 in
theorem f45_c (N : Int) (a : Option Addr) (n c : Nat) (R : List Road) (a1 : Option Addr) (n1 c1 : Nat) (y : List Int) (a2 : Option Addr) (n2 c2 : Nat) (x : List Int) (w : World) (hl : Roads w a R) (hn : R.length = n) (hlen : n ≤ 140737488355328) (hy : Ints w a1 y) (hn1 : y.length = n1) (hlen1 : n1 ≤ 1000000) (hx : Ints w a2 x) (hn2 : x.length = n2) (hlen2 : n2 ≤ 1000000) :
    Calls Try.prog 45 #[.agg #[.int .i64 N, .slice a n c], .slice a1 n1 c1, .slice a2 n2 c2] w (RetRd N R y x w) := by
  subst hn hn1 hn2
  have hE0 := ext_alloc w (.cells #[.int .i64 N, .slice a R.length c] 24)
  have HB := Lib.hid (BlkC.new w #[.int .i64 N, .slice a R.length c] 24)
  have hz := HB.out.lt
  have g0 := HB.out.cellv 0 (v := .int .i64 N) rfl
  have g1 := HB.out.cellv 1 (v := .slice a R.length c) rfl
  go_enter Try.func45, Try.ntmps45
  go_wp2_with fail
  generalize (w.alloc (.cells #[.int .i64 N, .slice a R.length c] 24)) = w0 at *
  refine (f20_c N a R.length c R a1 y.length c1 y a2 x.length c2 x _ (hl.ext hE0) rfl hlen (hy.ext hE0) rfl hlen1 (hx.ext hE0) rfl hlen2).mono ?_
  rintro e w1 ⟨rfl, hX1⟩
  have hE1 := hE0.trans' hX1
  generalize flowV N R y x = V at *
  by_cases h0 : flowErr N R y x = 0
  case neg =>
    have hb : (flowErr N R y x != 0) = true := by simp [h0]
    have HR : Hid (RetRd N R y x w (.returned (.tuple #[.slice none 0 0, .bool false, .int .i64 (flowErr N R y x)])) w1) := Lib.hid ⟨none, 0, [], rfl, ints_nil _ _, fun _ => rfl, fun h => absurd h h0, hE1⟩
    clear h0
    generalize flowErr N R y x = E at *
    go_wp2_with fail
    go_ret3
    exact HR.out
  obtain ⟨M, rfl, _, k3, _, k5, _⟩ := flow_right h0
  have HLe := Lib.hid k5.1
  have Hok := Lib.hid k3
  clear k3 k5 g0 g1 hz
  have g0 := (HB.out.ext hX1).cellv 0 (v := .int .i64 (M : Int)) rfl
  have g1 := (HB.out.ext hX1).cellv 1 (v := .slice a R.length c) rfl
  have hz := (HB.out.ext hX1).lt
  have HR : Hid (∀ a3 c3 l w2, Ints w2 a3 l → RoundOf M R x l → Ext w w2 → RetRd (M : Int) R y x w (.returned (.tuple #[.slice a3 l.length c3, .bool (decide (0 < l.length)), .int .i64 0])) w2) := Lib.hid (fun a3 c3 l w2 h1 h2 h3 => ⟨a3, c3, l, by rw [h0], h1, fun h => absurd h0 h, fun _ => h2, h3⟩)
  rw [h0]
  clear h0
  go_wp2_with fail
  refine (f78_c M a R.length c R a2 x.length c2 x _ (hl.ext hE1) rfl Hok.out (hx.ext hE1) rfl HLe.out).mono ?_
  rintro e w2 ⟨a3, c3, l, rfl, hi, hr, hX2⟩
  have HR2 := Lib.hid (HR.out a3 c3 l w2 hi hr (hE1.trans' hX2))
  have hd : decide ((0 : Int) < (l.length : Int)) = decide (0 < l.length) := by
    by_cases h : 0 < l.length
    · rw [decide_eq_true h, decide_eq_true (by omega)]
    · rw [decide_eq_false h, decide_eq_false (by omega)]
  clear HR hi hr
  go_wp2_with fail
  go_ret3
  exact HR2.out
end Go.Proofs.Ytbejgbflipoboaa
