/- MeanMedians: the law's walk. -/
import Derived.OwnWalk
import Derived.Test.YtgnjaapjaglleaaT21
import Derived.Test.YtgnjaapjaglleaaT12
namespace Go.Proofs.Ytgnjaapjaglleaa
open Go.RowKit
attribute [local go_sem] GW.cell

theorem f21_eq (a b : Option Addr) (n m c d : Nat) (l : List Atom) (w : World) (hl : Atoms w a l) (hk : Atoms w b l) (hn : l.length = n) (hm : l.length = m) (hn1 : n ≤ 140737488355328) :
    Calls Try.prog 21 #[.slice a n c, .slice b m d] w fun e w' => e = .returned (.bool true) ∧ Ext w w' :=
  (f21_c a b n m c d l l w hl hk hn hm hn1 (by omega)).mono fun e w' h => by simpa using h
theorem made_one (z : Value) (n : Nat) : (madeCells #[z] (n * 1)).toList = List.replicate n z := by
  apply List.ext_getElem (by simp [madeCells])
  intro i h1 h2
  simp [madeCells, Nat.mod_one]
def onesTo (n k : Nat) : List Int := (List.range n).map fun j => if j < k then 1 else 0
theorem onesTo_zero (n : Nat) : onesTo n 0 = List.replicate n 0 := by
  unfold onesTo; rw [List.eq_replicate_iff]; simp
theorem onesTo_all (n : Nat) : onesTo n n = onesL n := by
  unfold onesTo onesL; rw [List.eq_replicate_iff]
  refine ⟨by simp, fun b hb => ?_⟩
  obtain ⟨j, hj, rfl⟩ := List.mem_map.1 hb
  rw [if_pos (List.mem_range.1 hj)]
theorem onesTo_set {n k : Nat} : (onesTo n k).set k 1 = onesTo n (k + 1) := List.ext_getElem (by simp [onesTo]) fun j h1 h2 => by
  rw [List.getElem_set]
  simp only [onesTo, List.getElem_map, List.getElem_range]
  by_cases e : k = j
  · rw [if_pos e, if_pos (by omega)]
  · rw [if_neg e]
    by_cases h : j < k
    · rw [if_pos h, if_pos (by omega)]
    · rw [if_neg h, if_neg (by omega)]
theorem ones_cell {W : World} {B n k : Nat} (h : W.ownsRow B 3 1 (.slice (some ⟨B, 0, none⟩) n n) n ((onesTo n k).map (.int .i64))) (hin : k < n) : W.cell? ⟨B, k, none⟩ = some (.int .i64 0) := by
  refine (h.cellAt k (by omega)).trans ?_
  rw [List.getElem?_map]
  simp [onesTo, hin]
theorem ones_store {W : World} {B n k : Nat} (h : W.ownsRow B 3 1 (.slice (some ⟨B, 0, none⟩) n n) n ((onesTo n k).map (.int .i64))) :
    (W.setCell ⟨B, k, none⟩ (.int .i64 1)).ownsRow B 3 1 (.slice (some ⟨B, 0, none⟩) n n) n ((onesTo n (k + 1)).map (.int .i64)) := by
  have hst := (h.stored k (.int .i64 1)).1
  rw [← List.map_set, onesTo_set] at hst
  exact hst
theorem rankV_len (l : List (List Atom)) (r : Nat) (hr : 0 < l.length → r < l.length) : (rankV l r).length ≤ 40 := by
  unfold rankV
  split
  · rename_i h
    have hok := loadsErr_ok h
    exact rank_len r hok (hr hok.pos)
  · simp
set_option maxRecDepth 20000 in
set_option maxHeartbeats 8000000 in
theorem lawMed (w : World) (a : Option Addr) (n c : Nat) (l : List (List Atom)) (hl : Loads w a l) (hn : l.length = n) (hlx : n ≤ 9223372036854775807) (b : Option Addr) (k d : Nat) (m : List Atom) (hm : Atoms w b m) (hk : m.length = k) :
    Calls Try.prog 15 #[.slice a n c, .slice b k d] w fun e w' => e = .returned (.bool true) ∧ Ext w w' := by
  subst hn hk
  obtain ⟨i0, hi0⟩ := info_parts info3
  have Hi := Lib.hid hi0
  clear hi0
  go_enter Try.func15, Try.ntmps15
  go_wp2_with fail
  refine (f32_c a l.length c l _ hl rfl hlx).mono ?_
  rintro e w0 ⟨rfl, hE0⟩
  rcases Bool.eq_false_or_eq_true (longB l) with h1 | h1
  · rw [h1]
    go_wp2_with fail
    refine (f18_c _).mono ?_
    rintro e w9 ⟨rfl, hE9⟩
    go_wp2_with fail
    go_ret
    exact ⟨rfl, hE0.trans' hE9⟩
  obtain ⟨q1, q2⟩ := longB_no h1
  rw [h1]
  go_wp2_with fail
  refine (f17_c _ _ _ _).mono ?_
  rintro e w1 ⟨rfl, rfl⟩
  by_cases h2 : 100 < m.length
  · rw [decide_eq_true (show 100 < (m.length : Int) by omega)]
    go_wp2_with fail
    refine (f18_c _).mono ?_
    rintro e w9 ⟨rfl, hE9⟩
    go_wp2_with fail
    go_ret
    exact ⟨rfl, hE0.trans' hE9⟩
  rw [decide_eq_false (show ¬ 100 < (m.length : Int) by omega)]
  have hlen2 : m.length ≤ 140737488355328 := by omega
  have hlen : l.length ≤ 140737488355328 := by omega
  have Hin : Hid (∀ j, (hj : j < l.length) → l[j].length ≤ 140737488355328) := Lib.hid (fun j hj => by have := q2 j hj; omega)
  clear q2 h1
  have hm0 := rankV_len l ((l.length - 1) / 2) (fun h => by omega)
  have HC53 := Lib.hid (fun W (hW : Loads W a l) => f53_c a l.length c l W hW rfl hlen Hin.out)
  have HC54 := Lib.hid (fun W (hW : Loads W a l) => f54_c a l.length c l W hW rfl hlen Hin.out)
  have HC55 := Lib.hid (fun W (hW : Loads W a l) b n2 c2 (m : List Atom) (hm : Atoms W b m) (hn2 : m.length = n2) (hl2 : n2 ≤ 140737488355328) => f55_c a b l.length c n2 c2 l m W hW rfl hlen Hin.out hm hn2 hl2)
  have HC56 := Lib.hid (fun W (hW : Loads W a l) b n2 c2 (m : List Atom) (hm : Atoms W b m) (hn2 : m.length = n2) (hl2 : n2 ≤ 140737488355328) => f56_c a b l.length c n2 c2 l m W hW rfl hlen Hin.out hm hn2 hl2)
  have HC35 := Lib.hid (fun W (hW : Loads W a l) a3 c3 (ws : List Int) (hw : Ints W a3 ws) n3 (hn3 : ws.length = n3) (hl3 : n3 ≤ 140737488355328) b n2 c2 (m : List Atom) (hm : Atoms W b m) (hn2 : m.length = n2) (hl2 : n2 ≤ 140737488355328) => f35_c a a3 b l.length c n3 c3 n2 c2 l ws m 1 W hW rfl hlen Hin.out hw hn3 hl3 hm hn2 hl2)
  have HV : Hid (medErr l m = 0 → rankV l ((l.length - 1) / 2) = rankL l ((l.length - 1) / 2)) := Lib.hid (fun h => by unfold rankV; rw [if_pos (medErr_ok h).1])
  have HSa := Lib.hid (fun (h : medErr l m = 0) => (⟨medians_said h, med_sumErr h, med_sumErr (medians_said h).1⟩ : _ ∧ _ ∧ _))
  have h5 : Hid (medErr l m = 0 → l.length ≤ 5) := Lib.hid (fun h => (loadsErr_ok (medErr_ok h).1).five)
  generalize rankV l ((l.length - 1) / 2) = R at *
  generalize rankL l ((l.length - 1) / 2) = Q at *
  have hEE : (loadsErr l != loadsErr l) = false := by simp
  have hMM : (medErr l m != medErr l m) = false := by simp
  have hBB : (medB l m != medB l m) = false := by simp
  go_wp2_with fail
  refine (HC53.out _ (hl.ext hE0)).mono ?_
  rintro e w1 ⟨v1, rfl, hrow, hX1⟩
  obtain ⟨a1, c1, rfl, hA1⟩ := atoms_of_row hrow
  clear hrow
  have hE1 := hE0.trans' hX1
  go_wp2_with fail
  refine (HC54.out _ (hl.ext hE1)).mono ?_
  rintro e w2 ⟨v2, rfl, hrow, hX2⟩
  obtain ⟨a2, c2, rfl, hA2⟩ := atoms_of_row hrow
  clear hrow
  have hE2 := hE1.trans' hX2
  have hA1 := hA1.ext hX2
  go_wp2_with fail
  refine (HC55.out _ (hl.ext hE2) b m.length d m (hm.ext hE2) rfl hlen2).mono ?_
  rintro e w3 ⟨rfl, hX3⟩
  have hE3 := hE2.trans' hX3
  have hA1 := hA1.ext hX3
  have hA2 := hA2.ext hX3
  go_wp2_with fail
  refine (HC56.out _ (hl.ext hE3) b m.length d m (hm.ext hE3) rfl hlen2).mono ?_
  rintro e w4 ⟨rfl, hX4⟩
  have hE4 := hE3.trans' hX4
  have hA1 := hA1.ext hX4
  have hA2 := hA2.ext hX4
  clear HC53 HC54 HC56
  go_wp2_with fail
  refine (f21_eq a1 a2 R.length R.length c1 c2 R w4 hA1 hA2 rfl rfl (by omega)).mono ?_
  rintro e w5 ⟨rfl, hX5⟩
  have hE5 := hE4.trans' hX5
  have hA1 := hA1.ext hX5
  clear hA2
  by_cases h0 : medErr l m = 0
  case neg =>
    have hb : (medErr l m != 0) = true := by simp [h0]
    clear h0 HV HSa h5 HC35 HC55
    generalize medErr l m = E at *
    generalize medB l m = BB at *
    generalize loadsErr l = EL at *
    go_wp2_with fail
    refine (f18_c _).mono ?_
    rintro e w99 ⟨rfl, hE99⟩
    go_wp2_with fail
    go_ret
    exact ⟨rfl, hE5.trans' hE99⟩
  obtain ⟨⟨s1, s2, s3, s4⟩, s5, s6⟩ := HSa.out h0
  have hRQ := HV.out h0
  rw [← hRQ] at s1 s2 s3 s4 s6
  have h5 := h5.out h0
  rw [h0]
  have C55 := HC55.out w5 (hl.ext hE5) a1 R.length c1 R hA1 rfl (by omega)
  unfold RetMed at C55
  rw [s1, s2] at C55
  have HS3 := Lib.hid s3
  have HS4 := Lib.hid s4
  have HS5 := Lib.hid s5
  have HS6 := Lib.hid s6
  clear h0 hRQ s1 s2 s3 s4 s5 s6 HV HSa HC55
  generalize medB l m = BB at *
  generalize loadsErr l = EL at *
  go_wp2_with fail
  refine C55.mono ?_
  clear C55
  rintro e w6 ⟨rfl, hX6⟩
  have hE6 := hE5.trans' hX6
  have hA1 := hA1.ext hX6
  go_wp2_with (at_make; refine wpList_make_full _ rfl (.tmp 79) (.tmp 79) 30 rfl w6.heap.size 3 i0 (.int .i64 0) 1 Try.underlying30 Hi.out.1 Hi.out.2.1 Hi.out.2.2.1 .i64 .i64 l.length l.length l.length rfl rfl rfl rfl (by rw [Hi.out.2.2.2]; omega) (by unfold maxLen; omega) (Nat.le_refl _) ?_; intro w7 hrow hgrow; have hX7 := (Below.refl _ w6).grown hgrow (Nat.le_refl _) (by simp); rw [show (Value.int IntKind.i64 0).cells = #[.int .i64 0] from rfl, made_one] at hrow; have Hrow := Lib.hid hrow; clear hrow hgrow)
  go_loopw [16] (fun i wr => ∃ q : Nat, q ≤ l.length ∧ i = .int .i64 q ∧ Ext w6 wr ∧ Hid (wr.ownsRow w6.heap.size 3 1 (.slice (some ⟨w6.heap.size, 0, none⟩) l.length l.length) l.length ((onesTo l.length q).map (.int .i64)))) (fun i _ => l.length - (intOf i).toNat)
  case atStart => exact ⟨0, by omega, rfl, hX7, by rw [onesTo_zero, List.map_replicate]; exact Hrow⟩
  case round =>
    obtain ⟨q, hq, rfl, hX8, H⟩ := hrel
    by_cases hlt : q < l.length
    · have hcc := ones_cell H.out hlt
      have hff := H.out.frozenAt q
      have H2 := Lib.hid (ones_store H.out)
      go_wp2_with fail
      go_roundw
      case rel => exact ⟨q + 1, by omega, by go_num, hX8.setCell (Nat.le_refl _) _, H2⟩
      case measure => simp [intOf]; omega
    · obtain rfl : q = l.length := by omega
      have H2 := H.out
      rw [onesTo_all] at H2
      obtain ⟨ad, cp, he, hI⟩ := ints_of_row H2
      have hol : (onesL l.length).length = l.length := by simp [onesL]
      rw [hol] at he
      injection he with he1 he2 he3
      have hE8 := hE6.trans' hX8
      have hA8 := hA1.ext hX8
      have C1 := HC35.out wr (hl.ext hE8) ad cp (onesL l.length) hI l.length hol hlen a1 R.length c1 R hA8 rfl (by omega)
      have HC2 := Lib.hid (fun W (hW : Ext wr W) => HC35.out W (hl.ext (hE8.trans' hW)) ad cp (onesL l.length) (hI.ext hW) l.length hol hlen b m.length d m (hm.ext (hE8.trans' hW)) rfl hlen2)
      rw [HS5.out] at HC2
      rw [HS6.out] at C1
      rw [← he1, ← he3] at C1 HC2
      clear he1 he2 he3 hI H H2 HC35 hol
      have hle := HS3.out
      have heq := HS4.out
      have hbq : (decide (sumV l (onesL l.length) R 1 = sumV l (onesL l.length) m 1) == BB) = true := by rw [heq]; simp
      generalize sumV l (onesL l.length) R 1 = X at *
      generalize sumV l (onesL l.length) m 1 = Y at *
      obtain ⟨wo, rfl⟩ : ∃ wo : World, wo = wr := ⟨_, rfl⟩
      go_wp2_with fail
      refine C1.mono ?_
      clear C1
      rintro e w9 ⟨rfl, hX9⟩
      go_wp2_with fail
      refine (HC2.out _ hX9).mono ?_
      rintro e w10 ⟨rfl, hX10⟩
      have hE10 := (hE8.trans' hX9).trans' hX10
      clear HC2
      go_wp2_with fail
      refine (f18_c _).mono ?_
      rintro e w99 ⟨rfl, hE99⟩
      go_wp2_with fail
      go_ret
      exact ⟨rfl, hE10.trans' hE99⟩
end Go.Proofs.Ytgnjaapjaglleaa
