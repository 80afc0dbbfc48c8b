/- Contracts of the package line, as TopMeans meets them: both, pair. -/
import Derived.Test.YtgnjaapjaglleaaT11
namespace Go.Proofs.Ytgnjaapjaglleaa
open Go.RowKit
attribute [local go_sem] GW.cell

def bothErr (l m : List Atom) : Int := if valLoad l ≠ 0 then valLoad l else valLoad m
def linePair (l m : List Atom) : Int := if bothErr l m ≠ 0 then bothErr l m else if totalL l ≠ totalL m then 5 else 0
set_option maxHeartbeats 2000000 in
theorem f94_c (a a2 : Option Addr) (n c n2 c2 : Nat) (l m : List Atom) (w : World) (hl : Atoms w a l) (hn : l.length = n) (hlen : n ≤ 140737488355328) (hm : Atoms w a2 m) (hn2 : m.length = n2) (hlen2 : n2 ≤ 140737488355328) :
    Calls Try.prog 94 #[.slice a n c, .slice a2 n2 c2] w fun e w' => e = .returned (.int .i64 (bothErr l m)) ∧ Ext w w' := by
  subst hn hn2
  go_enter Try.func94, Try.ntmps94
  go_wp2_with fail
  refine (f87_c a l.length c l _ hl rfl hlen).mono ?_
  rintro e w1 ⟨rfl, hE1⟩
  by_cases h0 : valLoad l = 0
  case neg =>
    have hb : (valLoad l != 0) = true := by simp [h0]
    have HR : Hid (bothErr l m = valLoad l) := Lib.hid (by unfold bothErr; rw [if_pos h0])
    clear h0
    go_wp2_with fail
    go_ret
    exact ⟨ret_int HR.out.symm, hE1⟩
  have HR : Hid (bothErr l m = valLoad m) := Lib.hid (by unfold bothErr; rw [if_neg (by simpa using h0)])
  rw [h0]
  clear h0
  go_wp2_with fail
  refine (f87_c a2 m.length c2 m _ (hm.ext hE1) rfl hlen2).mono ?_
  rintro e w2 ⟨rfl, hX2⟩
  go_wp2_with fail
  go_ret
  exact ⟨ret_int HR.out.symm, hE1.trans' hX2⟩
theorem bothErr_ok {l m : List Atom} (h : bothErr l m = 0) : valLoad l = 0 ∧ valLoad m = 0 := by
  unfold bothErr at h
  by_cases h1 : valLoad l = 0
  · rw [if_neg (by simpa using h1)] at h; exact ⟨h1, h⟩
  · rw [if_pos h1] at h; exact absurd h h1
set_option maxHeartbeats 2000000 in
theorem f95_c (a a2 : Option Addr) (n c n2 c2 : Nat) (l m : List Atom) (w : World) (hl : Atoms w a l) (hn : l.length = n) (hlen : n ≤ 140737488355328) (hm : Atoms w a2 m) (hn2 : m.length = n2) (hlen2 : n2 ≤ 140737488355328) :
    Calls Try.prog 95 #[.slice a n c, .slice a2 n2 c2] w fun e w' => e = .returned (.int .i64 (linePair l m)) ∧ Ext w w' := by
  subst hn hn2
  go_enter Try.func95, Try.ntmps95
  go_wp2_with fail
  refine (f94_c a a2 l.length c m.length c2 l m _ hl rfl hlen hm rfl hlen2).mono ?_
  rintro e w1 ⟨rfl, hE1⟩
  by_cases h0 : bothErr l m = 0
  case neg =>
    have hb : (bothErr l m != 0) = true := by simp [h0]
    have HR : Hid (linePair l m = bothErr l m) := Lib.hid (by unfold linePair; rw [if_pos h0])
    clear h0
    go_wp2_with fail
    go_ret
    exact ⟨ret_int HR.out.symm, hE1⟩
  obtain ⟨v1, v2⟩ := bothErr_ok h0
  have F1 := Lib.hid (fine_load v1)
  have F2 := Lib.hid (fine_load v2)
  have H0 := Lib.hid h0
  rw [h0]
  clear h0 v1 v2
  go_wp2_with fail
  refine (f109_c a l.length c l _ (hl.ext hE1) rfl F1.out).mono ?_
  rintro e w2 ⟨rfl, hX2⟩
  have hE2 := hE1.trans' hX2
  go_wp2_with fail
  refine (f109_c a2 m.length c2 m _ (hm.ext hE2) rfl F2.out).mono ?_
  rintro e w3 ⟨rfl, hX3⟩
  have hE3 := hE2.trans' hX3
  by_cases ht : totalL l = totalL m
  · have hb : (totalL l != totalL m) = false := by simp [ht]
    have HR : Hid (linePair l m = 0) := Lib.hid (by unfold linePair; rw [if_neg (by simpa using H0.out), if_neg (by simpa using ht)])
    clear ht
    generalize totalL l = T1 at *
    generalize totalL m = T2 at *
    go_wp2_with fail
    go_ret
    exact ⟨ret_int HR.out.symm, hE3⟩
  · have hb : (totalL l != totalL m) = true := by simp [ht]
    have HR : Hid (linePair l m = 5) := Lib.hid (by unfold linePair; rw [if_neg (by simpa using H0.out), if_pos ht])
    clear ht
    generalize totalL l = T1 at *
    generalize totalL m = T2 at *
    go_wp2_with fail
    go_ret
    exact ⟨ret_int HR.out.symm, hE3⟩
/-- the mass of the first k atoms that lies at t or below -/
def belTo (l : List Atom) (t : Int) (k : Nat) : Int := sumR (fun i => if (atK l i).p ≤ t then (atK l i).m else 0) k
theorem belTo_bd {l : List Atom} (hF : Fine l) (t : Int) {k : Nat} (hk : k ≤ l.length) : 0 ≤ belTo l t k ∧ belTo l t k ≤ k * 1000 := by
  have h := sumR_bd (f := fun i => if (atK l i).p ≤ t then (atK l i).m else 0) (A := 0) (B := 1000) (n := l.length) (fun i hi => by
    have := hF.2 i hi
    rw [atK_at hi]
    split <;> omega) k hk
  unfold belTo
  omega
set_option maxHeartbeats 2000000 in
theorem f98_c (a : Option Addr) (n c : Nat) (l : List Atom) (t : Int) (w : World) (hl : Atoms w a l) (hn : l.length = n) (hF : Fine l) :
    Calls Try.prog 98 #[.slice a n c, .int .i64 t] w fun e w' => e = .returned (.int .i64 (belTo l t l.length)) ∧ Ext w w' := by
  subst hn
  have h40 := hF.1
  have Hbd := Lib.hid (fun k (hk : k ≤ l.length) => belTo_bd hF t hk)
  have HF := Lib.hid hF
  clear hF
  go_enter Try.func98, Try.ntmps98
  go_wp2_with fail
  go_loopw [5, 10] (fun s i wr => ∃ k : Nat, k ≤ l.length ∧ i = .int .i64 k ∧ s = .int .i64 (belTo l t k) ∧ Ext w wr) (fun s i _ => l.length - (intOf i).toNat)
  case atStart => exact ⟨0, Nat.zero_le _, rfl, rfl, Below.refl _ _⟩
  case round =>
    obtain ⟨k, hk, rfl, rfl, hE⟩ := hrel
    by_cases hlt : k < l.length
    · obtain ⟨b, off, rfl, hb, hx, hy⟩ := hl.ext hE k hlt
      have h1 := Hbd.out k (by omega)
      have h2 := HF.out.2 k hlt
      have Hs : Hid (belTo l t (k + 1) = belTo l t k + (if l[k].p ≤ t then l[k].m else 0)) := Lib.hid (by unfold belTo; simp only [sumR]; rw [atK_at hlt])
      generalize belTo l t k = B0 at *
      by_cases hle : l[k].p ≤ t
      · rw [if_pos hle] at Hs
        generalize l[k].p = pp at *
        generalize l[k].m = mm at *
        go_wp2_with fail
        go_roundw
        case rel => exact ⟨k + 1, by omega, by go_num, by rw [Hs.out], hE.trans' (ext_alloc _ _)⟩
        case measure => simp [intOf]; omega
      · rw [if_neg hle, Int.add_zero] at Hs
        generalize l[k].p = pp at *
        generalize l[k].m = mm at *
        go_wp2_with fail
        go_roundw
        case rel => exact ⟨k + 1, by omega, by go_num, by rw [Hs.out], hE.trans' (ext_alloc _ _)⟩
        case measure => simp [intOf]; omega
    · obtain rfl : k = l.length := by omega
      go_wp2_with fail
      go_ret
      exact ⟨rfl, hE⟩
/-- the sum of the gaps of the two heaps at the first j places from -1000 on -/
def areaTo (l m : List Atom) (j : Nat) : Int := sumR (fun i => distI (belTo m ((i : Int) - 1000) m.length) (belTo l ((i : Int) - 1000) l.length)) j
def areaV (l m : List Atom) : Int := if linePair l m = 0 then areaTo l m 2000 else 0
theorem areaTo_bd {l m : List Atom} (hF : Fine l) (hG : Fine m) {j : Nat} (hj : j ≤ 2000) : 0 ≤ areaTo l m j ∧ areaTo l m j ≤ j * 40000 := by
  have h := sumR_bd (f := fun i => distI (belTo m ((i : Int) - 1000) m.length) (belTo l ((i : Int) - 1000) l.length)) (A := 0) (B := 40000) (n := 2000) (fun i hi => by
    have h1 := belTo_bd hF ((i : Int) - 1000) (Nat.le_refl _)
    have h2 := belTo_bd hG ((i : Int) - 1000) (Nat.le_refl _)
    have h3 := hF.1
    have h4 := hG.1
    unfold distI
    split <;> omega) j hj
  unfold areaTo
  omega
theorem linePair_ok {l m : List Atom} (h : linePair l m = 0) : valLoad l = 0 ∧ valLoad m = 0 ∧ totalL l = totalL m := by
  unfold linePair at h
  by_cases h1 : bothErr l m = 0
  · rw [if_neg (by simpa using h1)] at h
    obtain ⟨a, b⟩ := bothErr_ok h1
    by_cases h2 : totalL l = totalL m
    · exact ⟨a, b, h2⟩
    · rw [if_pos h2] at h; simp at h
  · rw [if_pos h1] at h; exact absurd h h1
set_option maxHeartbeats 4000000 in
theorem f58_c (a a2 : Option Addr) (n c n2 c2 : Nat) (l m : List Atom) (w : World) (hl : Atoms w a l) (hn : l.length = n) (hlen : n ≤ 140737488355328) (hm : Atoms w a2 m) (hn2 : m.length = n2) (hlen2 : n2 ≤ 140737488355328) :
    Calls Try.prog 58 #[.slice a n c, .slice a2 n2 c2] w fun e w' => e = .returned (.tuple #[.int .i64 (areaV l m), .int .i64 (linePair l m)]) ∧ Ext w w' := by
  subst hn hn2
  go_enter Try.func58, Try.ntmps58
  go_wp2_with fail
  refine (f95_c a a2 l.length c m.length c2 l m _ hl rfl hlen hm rfl hlen2).mono ?_
  rintro e w1 ⟨rfl, hE1⟩
  by_cases h0 : linePair l m = 0
  case neg =>
    have hb : (linePair l m != 0) = true := by simp [h0]
    have HV : Hid (areaV l m = 0) := Lib.hid (by unfold areaV; rw [if_neg h0])
    clear h0
    go_wp2_with fail
    go_ret2
    exact ⟨ret_ii HV.out.symm rfl, hE1⟩
  have H0 := Lib.hid h0
  have HV : Hid (areaV l m = areaTo l m 2000) := Lib.hid (by unfold areaV; rw [if_pos h0])
  obtain ⟨v1, v2, -⟩ := linePair_ok h0
  have F1 := Lib.hid (fine_load v1)
  have F2 := Lib.hid (fine_load v2)
  have h41 := F1.out.1
  have h42 := F2.out.1
  have Hbd := Lib.hid (fun j (hj : j ≤ 2000) => areaTo_bd F1.out F2.out hj)
  rw [h0]
  clear h0 v1 v2
  go_wp2_with fail
  go_loopw [7, 8] (fun s i wr => ∃ j : Nat, j ≤ 2000 ∧ i = .int .i64 ((j : Int) - 1000) ∧ s = .int .i64 (areaTo l m j) ∧ Ext w1 wr) (fun _ i _ => (1000 - intOf i).toNat)
  case atStart => exact ⟨0, Nat.zero_le _, rfl, rfl, Below.refl _ _⟩
  case round =>
    obtain ⟨j, hj, rfl, rfl, hX2⟩ := hrel
    have hE2 := hE1.trans' hX2
    by_cases hlt : j < 2000
    · have hb0 := Hbd.out j hj
      have Hs : Hid (areaTo l m (j + 1) = areaTo l m j + distI (belTo m ((j : Int) - 1000) m.length) (belTo l ((j : Int) - 1000) l.length)) := Lib.hid rfl
      have b1 := belTo_bd F1.out ((j : Int) - 1000) (Nat.le_refl _)
      have b2 := belTo_bd F2.out ((j : Int) - 1000) (Nat.le_refl _)
      have HC1 := Lib.hid (fun W (hW : Ext w W) => f98_c a l.length c l ((j : Int) - 1000) W (hl.ext hW) rfl F1.out)
      have HC2 := Lib.hid (fun W (hW : Ext w W) => f98_c a2 m.length c2 m ((j : Int) - 1000) W (hm.ext hW) rfl F2.out)
      generalize belTo l ((j : Int) - 1000) l.length = B1 at *
      generalize belTo m ((j : Int) - 1000) m.length = B2 at *
      generalize areaTo l m j = A0 at *
      have hlt2 : (j : Int) - 1000 < 1000 := by omega
      go_wp2_with fail
      refine (HC1.out _ hE2).mono ?_
      rintro e w3 ⟨rfl, hX3⟩
      have hX3 := hX2.trans' hX3
      go_wp2_with fail
      refine (HC2.out _ (hE1.trans' hX3)).mono ?_
      rintro e w4 ⟨rfl, hX4⟩
      have hX4 := hX3.trans' hX4
      go_wp2_with fail
      go_roundw
      case rel => exact ⟨j + 1, by omega, by congr 1 <;> omega, by rw [Hs.out]; congr 1; unfold distI; split <;> split <;> omega, hX4⟩
      case measure => simp [intOf] <;> omega
    · obtain rfl : j = 2000 := by omega
      go_wp2_with fail
      go_ret2
      exact ⟨ret_ii HV.out.symm H0.out.symm, hE2⟩
end Go.Proofs.Ytgnjaapjaglleaa
