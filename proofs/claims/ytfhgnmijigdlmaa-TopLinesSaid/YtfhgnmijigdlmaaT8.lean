/- Contracts of the line: masses at places, heights. -/
import Derived.Test.YtfhgnmijigdlmaaT7
import Derived.Test.YtfhgnmijigdlmaaMapI
namespace Go.Proofs.Ytfhgnmijigdlmaa
open Go.RowKit
attribute [local go_sem] GW.cell

theorem f72_c (n : Int) (w : World) : Calls Try.prog 72 #[.int .i64 n] w fun e w' => e = .returned (.bool (!withinB n (-10000) 10000)) ∧ w = w' := by
  go_enter Try.func72, Try.ntmps72
  go_wp2
  all_goals (go_ret; exact ⟨ret_bool (by rw [Bool.eq_iff_iff]; simp [withinB]; try omega), rfl⟩)
set_option maxHeartbeats 1000000 in
theorem f115_72 (a : Option Addr) (c : Nat) (l : List Int) (w : World) (hl : Ints w a l) (hlen : l.length ≤ 140737488355328) :
    Calls Try.prog 115 #[.slice a l.length c, .func (.func 72) #[] #[]] w fun e w' => e = .returned (.int .i64 (idxP (fun n => !withinB n (-10000) 10000) l)) ∧ w = w' := by
  go_enter Try.func115, Try.ntmps115
  go_wp2_with fail
  go_loop [5, 8] (fun _ i => ∃ k : Nat, k ≤ l.length ∧ i = .int .i64 k ∧ Hid (∀ j, j < k → (fun n => !withinB n (-10000) 10000) (l[j]?.getD 0) = false)) (fun _ i => l.length - (intOf i).toNat)
  case atStart => exact ⟨0, Nat.zero_le _, rfl, fun j hj => by omega⟩
  case round =>
    obtain ⟨k, hk, rfl, H⟩ := hrel
    by_cases hlt : k < l.length
    · obtain ⟨b, off, rfl, hb, hcc⟩ := hl k hlt
      rw [List.getElem?_eq_getElem hlt, Option.getD_some] at hcc
      rcases Bool.eq_false_or_eq_true ((fun n => !withinB n (-10000) 10000) l[k]) with hy | hy
      · have Hy := Lib.hid hy
        simp only at hy
        go_wp2_with fail
        refine (f72_c _ _).mono ?_
        rintro e w' ⟨rfl, rfl⟩
        rw [hy]
        clear hy
        go_wp2_with fail
        go_ret
        exact ⟨ret_int (idxP_hit (p := fun n => !withinB n (-10000) 10000) hlt H.out Hy.out).symm, rfl⟩
      · have Hy := Lib.hid hy
        simp only at hy
        go_wp2_with fail
        refine (f72_c _ _).mono ?_
        rintro e w' ⟨rfl, rfl⟩
        rw [hy]
        clear hy
        go_wp2_with fail
        go_round
        case rel =>
          refine ⟨k + 1, by omega, by go_num, fun j hj => ?_⟩
          by_cases e : j = k
          · subst e; rw [List.getElem?_eq_getElem hlt]; exact Hy.out
          · exact H.out j (by omega)
        case measure => simp [intOf]; omega
    · obtain rfl : k = l.length := by omega
      go_wp2_with fail
      go_ret
      exact ⟨ret_int (idxP_miss (p := fun n => !withinB n (-10000) 10000) H.out).symm, rfl⟩
theorem f71_72 (a : Option Addr) (c : Nat) (l : List Int) (w : World) (hl : Ints w a l) (hlen : l.length ≤ 140737488355328) :
    Calls Try.prog 71 #[.slice a l.length c, .func (.func 72) #[] #[]] w fun e w' => e = .returned (.bool (l.any (fun n => !withinB n (-10000) 10000))) ∧ w = w' := by
  go_enter Try.func71, Try.ntmps71
  go_wp2_with fail
  refine (f115_72 _ _ _ _ hl hlen).mono ?_
  rintro e w' ⟨rfl, rfl⟩
  go_wp2_with fail
  go_ret
  exact ⟨ret_bool (idxP_geq _ _), rfl⟩
theorem mass_take {l : List Atom} (hp : l.Pairwise (fun x y => x.p < y.p)) {k : Nat} (hk : k < l.length) (p : Int) : massAt (l.take (k + 1)) p = updF (massAt (l.take k)) l[k].p l[k].m p := by
  rw [List.pairwise_iff_getElem] at hp
  unfold updF
  rw [List.take_succ_eq_append_getElem hk]
  unfold massAt
  rw [List.find?_append]
  by_cases e : p = l[k].p
  · rw [if_pos e]
    have : (l.take k).find? (fun x => decide (x.p = p)) = none := by
      rw [List.find?_eq_none]
      intro x hx
      obtain ⟨j, hj, rfl⟩ := List.getElem_of_mem hx
      rw [List.length_take] at hj
      rw [List.getElem_take]
      have := hp j k (by omega) hk (by omega)
      simp; omega
    rw [this]
    simp [e]
  · rw [if_neg e]
    have : [l[k]].find? (fun x => decide (x.p = p)) = none := by simp; omega
    rw [this, Option.or_none]
set_option maxHeartbeats 4000000 in
theorem f73_c (a : Option Addr) (n c : Nat) (l : List Atom) (w : World) (hl : Atoms w a l) (hn : l.length = n) (hv : valLoad l = 0) :
    Calls Try.prog 73 #[.slice a n c] w fun e w' => ∃ b, e = .returned (.map (some b)) ∧ MapI w' b (massAt l) 6 ∧ w.heap.size ≤ b ∧ Ext w w' := by
  subst hn
  have h6 := (listErr_ok hv).1
  have Hp := Lib.hid (load_pw hv)
  have HF := Lib.hid (fine_load hv)
  have hmm := @run_makeMap Try.prog
  have HM := Lib.hid (MapI.made w)
  have hE0 := ext_alloc w (.map #[] 0)
  clear hv
  go_enter Try.func73, Try.ntmps73
  go_wp2_with fail
  go_loopw [9] (fun i wr => ∃ k : Nat, k ≤ l.length ∧ i = .int .i64 k ∧ Ext w wr ∧ Hid (MapI wr w.heap.size (massAt (l.take k)) k)) (fun i _ => l.length - (intOf i).toNat)
  case atStart => exact ⟨0, Nat.zero_le _, rfl, hE0, HM⟩
  case round =>
    obtain ⟨k, hk, rfl, hE, H⟩ := hrel
    by_cases hlt : k < l.length
    · obtain ⟨b, off, rfl, hb, hx, hy⟩ := hl.ext hE k hlt
      have hF := HF.out.2 k hlt
      have Ht := Lib.hid (fun p => mass_take Hp.out hlt p)
      generalize l[k].p = pp at *
      generalize l[k].m = mm at *
      obtain ⟨X, hrun, hX, hg⟩ := (H.out.alloc (.cells #[.int .i64 pp, .int .i64 mm] 50)).store Try.underlying86 (by omega) (x := pp) (v := mm) (by omega) (by omega)
      have hE1 := (hE.alloc hE.size (.cells #[.int .i64 pp, .int .i64 mm] 50)).grown hg (by have := hE.size; simp; omega) (fun j ej => by simp at ej; omega)
      have HX : Hid (MapI X w.heap.size (massAt (l.take (k + 1))) (k + 1)) := Lib.hid (hX.congr fun x _ => (Ht.out x).symm)
      clear hX hg hF
      go_wp2_with fail
      go_roundw
      case rel => exact ⟨k + 1, by omega, by go_num, hE1, HX⟩
      case measure => simp [intOf]; omega
    · obtain rfl : k = l.length := by omega
      have H2 := H.out
      rw [List.take_length] at H2
      have H2 := Lib.hid (H2.mono (show l.length ≤ 6 by omega))
      go_wp2_with fail
      go_ret
      exact ⟨_, rfl, H2.out, Nat.le_refl _, hE⟩

/-- not steeper than 1, tested -/
def gentleB (L h : List Int) : Bool := (List.range (L.length - 1)).all fun i => decide (distI (gi h i) (gi h (i + 1)) ≤ gi L (i + 1) - gi L i)
theorem gentleB_iff (L h : List Int) : gentleB L h = true ↔ gentle L h L.length := by
  unfold gentleB gentle
  rw [List.all_eq_true]
  constructor
  · intro H i hi; simpa using H i (List.mem_range.2 (by omega))
  · intro H i hi; have := List.mem_range.1 hi; simpa using H i (by omega)
theorem gentleB_no {L h : List Int} {k : Nat} (hk : k + 1 < L.length) (h1 : gi L (k + 1) - gi L k < distI (gi h k) (gi h (k + 1))) : gentleB L h = false := by
  unfold gentleB; rw [List.all_eq_false]; exact ⟨k, List.mem_range.2 (by omega), by simp; omega⟩
def shapeB (L h : List Int) : Bool := decide (h.length = L.length) && !h.any (fun n => !withinB n (-10000) 10000)
def hgtErr (a b : List Atom) (h : List Int) : Int := if linePair a b ≠ 0 then linePair a b else if shapeB (placesL2 a b) h then (if gentleB (placesL2 a b) h then 0 else 7) else 1
def hgtV (a b : List Atom) (h : List Int) : Int := if hgtErr a b h = 0 then worthTo a b (placesL2 a b) h (placesL2 a b).length else 0
theorem shapeB_ok {L h : List Int} (H : shapeB L h = true) : h.length = L.length ∧ ∀ i, i < h.length → -10000 ≤ gi h i ∧ gi h i ≤ 10000 := by
  unfold shapeB at H
  simp only [Bool.and_eq_true, decide_eq_true_eq, Bool.not_eq_true'] at H
  refine ⟨H.1, fun i hi => ?_⟩
  have := List.any_eq_false.1 H.2 _ (gi_mem hi)
  simp only [Bool.not_eq_true', Bool.not_eq_false] at this
  exact withinB_iff.1 (by simpa using this)
theorem worth_succ (a b : List Atom) (L h : List Int) (n : Nat) : worthTo a b L h (n + 1) = worthTo a b L h n + gi h n * (massAt b (gi L n) - massAt a (gi L n)) := rfl
theorem worth_term {a b : List Atom} (ha : valLoad a = 0) (hb : valLoad b = 0) {x : Int} (hx : -10000 ≤ x ∧ x ≤ 10000) (p : Int) : -300000 ≤ x * (massAt b p - massAt a p) ∧ x * (massAt b p - massAt a p) ≤ 300000 := by
  have h1 := massAt_bd (fine_load ha) p
  have h2 := massAt_bd (fine_load hb) p
  have h3 := load_mass ha p
  have h4 := load_mass hb p
  have := mulbd (a := x) (b := massAt b p - massAt a p) (A := 10000) (B := 30) (by omega) (by omega)
  omega
theorem worthTo_bd {a b : List Atom} {L h : List Int} (ha : valLoad a = 0) (hb : valLoad b = 0) (hh : ∀ i, i < L.length → -10000 ≤ gi h i ∧ gi h i ≤ 10000) : ∀ n, n ≤ L.length → -(n * 300000) ≤ worthTo a b L h n ∧ worthTo a b L h n ≤ n * 300000
  | 0, _ => by simp [worthTo, sumR]
  | n + 1, hn => by
    have ih := worthTo_bd ha hb hh n (by omega)
    have h1 := worth_term ha hb (hh n (by omega)) (gi L n)
    rw [worth_succ]
    omega
end Go.Proofs.Ytfhgnmijigdlmaa
