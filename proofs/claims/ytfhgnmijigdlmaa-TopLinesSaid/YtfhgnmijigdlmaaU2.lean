/- Contract of the top package: between. -/
import Derived.Test.YtfhgnmijigdlmaaU1
namespace Go.Proofs.Ytfhgnmijigdlmaa.Tr
open Go.RowKit
attribute [local go_sem] GW.cell
/-- the cost of a kind between two atoms -/
def dAt (a b : List Atom) (k : Int) (i j : Nat) : Int := priceV (atK a i).p (atK b j).p k
def betRow (a b : List Atom) (k : Int) (i : Nat) : List Int := (List.range b.length).map (dAt a b k i)
def betTo (a b : List Atom) (k : Int) (q : Nat) : Tbl := (List.range q).map (betRow a b k)
def betT (a b : List Atom) (k : Int) : Tbl := betTo a b k a.length
def betB (a b : List Atom) (k : Int) : Bool := (List.range a.length).all fun i => (List.range b.length).all fun j => decide (dAt a b k i j ≤ 99)
theorem betTo_succ (a b : List Atom) (k : Int) (q : Nat) : betTo a b k (q + 1) = betTo a b k q ++ [betRow a b k q] := by simp [betTo, List.range_succ]
theorem betTo_length (a b : List Atom) (k : Int) (q : Nat) : (betTo a b k q).length = q := by simp [betTo]
theorem betRow_length (a b : List Atom) (k : Int) (i : Nat) : (betRow a b k i).length = b.length := by simp [betRow]
theorem betRow_gi {a b : List Atom} {k : Int} {i j : Nat} (h : j < b.length) : gi (betRow a b k i) j = dAt a b k i j := by simp [betRow, gi, h]
theorem betT_row {a b : List Atom} {k : Int} {i : Nat} (h : i < a.length) : row (betT a b k) i = betRow a b k i := by simp [betT, betTo, row, h]
theorem betT_tg {a b : List Atom} {k : Int} {i j : Nat} (hi : i < a.length) (hj : j < b.length) : tg (betT a b k) i j = dAt a b k i j := by unfold tg; rw [betT_row hi, betRow_gi hj]
theorem betB_yes {a b : List Atom} {k : Int} (h : ∀ i j, i < a.length → j < b.length → dAt a b k i j ≤ 99) : betB a b k = true := by
  unfold betB
  rw [List.all_eq_true]
  intro i hi
  rw [List.all_eq_true]
  intro j hj
  exact decide_eq_true (h i j (List.mem_range.1 hi) (List.mem_range.1 hj))
theorem betB_at {a b : List Atom} {k : Int} (h : betB a b k = true) {i j : Nat} (hi : i < a.length) (hj : j < b.length) : dAt a b k i j ≤ 99 := by
  unfold betB at h
  rw [List.all_eq_true] at h
  have h2 := h i (List.mem_range.2 hi)
  rw [List.all_eq_true] at h2
  exact of_decide_eq_true (h2 j (List.mem_range.2 hj))
theorem betB_no {a b : List Atom} {k : Int} {i j : Nat} (hi : i < a.length) (hj : j < b.length) (h : 99 < dAt a b k i j) : betB a b k = false := by
  cases h2 : betB a b k with
  | false => rfl
  | true => have := betB_at h2 hi hj; omega
def RetBet (a b : List Atom) (k : Int) (n : Nat) (w : World) (e : Ending) (w' : World) : Prop :=
  ((betB a b k = false ∧ e = .returned (.tuple #[.slice none 0 0, .bool false])) ∨ (betB a b k = true ∧ ∃ q c, e = .returned (.tuple #[.slice q n c, .bool true]) ∧ Table w' q (betT a b k))) ∧ Ext w w'
theorem dist_max (p q : Int) : max (p - q) (q - p) = distI p q := by unfold distI; split <;> omega
set_option maxRecDepth 20000 in
set_option maxHeartbeats 8000000 in
theorem f56_c (a1 a2 : Option Addr) (n c n2 c2 : Nat) (a b : List Atom) (k : Int) (w : World) (hl : Atoms w a1 a) (hn : a.length = n) (hlen : n ≤ 1000) (hm : Atoms w a2 b) (hn2 : b.length = n2) (hlen2 : n2 ≤ 1000) (hb1 : ∀ i, i < n → -1000 ≤ (atK a i).p ∧ (atK a i).p ≤ 1000) (hb2 : ∀ i, i < n2 → -1000 ≤ (atK b i).p ∧ (atK b i).p ≤ 1000) (hk : k = 1 ∨ k = 2) :
    Calls Try.prog 56 #[.agg #[.slice a1 n c, .slice a2 n2 c2], .int .i64 k] w (RetBet a b k n w) := by
  have hE0 := ext_alloc w (.cells #[.slice a1 n c, .slice a2 n2 c2] 24)
  have HB := Lib.hid (BlkC.new w #[.slice a1 n c, .slice a2 n2 c2] 24)
  have HA := Lib.hid hl
  have HC := Lib.hid hm
  have Hn := Lib.hid hn
  have Hn2 := Lib.hid hn2
  have Hb1 := Lib.hid hb1
  have Hb2 := Lib.hid hb2
  have Hk := Lib.hid hk
  have hz := HB.out.lt
  unfold RetBet
  clear hl hm hn hn2 hb1 hb2 hk
  go_enter Try.func56, Try.ntmps56
  go_upto_region 1 with fail
  generalize (w.alloc (.cells #[.slice a1 n c, .slice a2 n2 c2] 24)) = w0 at *
  go_wp2_with fail
  go_loopw [6, 7] (fun v i wr => ∃ q : Nat, q ≤ n ∧ i = .int .i64 q ∧ Ext w0 wr ∧ Hid (OwnT 31 wr w0.heap.size wr.heap.size v (betTo a b k q)) ∧ Hid (∀ i j, i < q → j < n2 → dAt a b k i j ≤ 99)) (fun _ i _ => n - (intOf i).toNat)
  case atStart => exact ⟨0, Nat.zero_le _, rfl, Below.refl _ _, OwnT.nil _ _ _, Lib.hid (fun i j h => by omega)⟩
  case round =>
    obtain ⟨q, hq, rfl, hX, HT, HQ⟩ := hrel
    obtain ⟨wo, rfl⟩ : ∃ wo : World, wo = wr := ⟨_, rfl⟩
    have g0 := (HB.out.ext hX).cellv 0 (v := .slice a1 n c) rfl
    have g1 := (HB.out.ext hX).cellv 1 (v := .slice a2 n2 c2) rfl
    have hzr := (HB.out.ext hX).lt
    by_cases hlt : q < n
    case neg =>
      obtain rfl : q = n := by omega
      obtain ⟨aT, cT, rfl, hTab⟩ := HT.out.table
      have hbB : betB a b k = true := betB_yes (fun i j hi hj => HQ.out i j (by rw [← Hn.out]; exact hi) (by rw [← Hn2.out]; exact hj))
      rw [betTo_length]
      have HTab : Hid (Table wo aT (betT a b k)) := Lib.hid (by unfold betT; rw [Hn.out]; exact hTab)
      have HbB := Lib.hid hbB
      clear hTab hbB HT HQ
      go_wp2_with fail
      go_ret2
      exact ⟨.inr ⟨HbB.out, _, _, rfl, HTab.out⟩, hE0.trans' hX⟩
    obtain ⟨b1, o1, rfl, hbw1, hcw1, -⟩ := HA.out q (by rw [Hn.out]; exact hlt)
    rw [← atK_at (by rw [Hn.out]; exact hlt)] at hcw1
    have hp := Hb1.out q hlt
    have Hd : Hid (∀ j, dAt a b k q j = priceV (atK a q).p (atK b j).p k) := Lib.hid (fun j => rfl)
    generalize (atK a q).p = p at *
    go_wp2_with fail
    go_loopw [8, 9] (fun v i wr => ∃ j : Nat, j ≤ n2 ∧ i = .int .i64 j ∧ Ext wo wr ∧ Hid (RowN wr wo.heap.size v ((betRow a b k q).take j)) ∧ Hid (∀ r, r < j → dAt a b k q r ≤ 99)) (fun _ i _ => n2 - (intOf i).toNat)
    case atStart => exact ⟨0, Nat.zero_le _, rfl, Below.refl _ _, by rw [List.take_zero]; exact World.ownsRow_nil _ _ _ _, Lib.hid (fun r h => by omega)⟩
    case round =>
      obtain ⟨j, hj, rfl, hXj, HR, HJ⟩ := hrel
      have hX2 := hX.trans' hXj
      have hE2 := hE0.trans' hX2
      have g0 := (HB.out.ext hX2).cellv 0 (v := .slice (some ⟨b1, o1, none⟩) n c) rfl
      have g1 := (HB.out.ext hX2).cellv 1 (v := .slice a2 n2 c2) rfl
      have hzj := (HB.out.ext hX2).lt
      by_cases hltj : j < n2
      case neg =>
        obtain rfl : j = n2 := by omega
        have hR1 := HR.out
        rw [← Hn2.out, ← betRow_length a b k q, List.take_length] at hR1
        unfold RowN at hR1
        obtain ⟨aR, cR, rfl⟩ := slice_form hR1
        have HR1 := Lib.hid hR1
        obtain ⟨AA, CC, GG, OO, hT⟩ := HT.out
        have hTl := betTo_length a b k q
        have hown0 := row_ext hT.own hXj
        rw [hTl] at hown0
        have Hown0 := Lib.hid hown0
        have HTT := Lib.hid hT
        have HTl := Lib.hid hTl
        have hszj := hXj.size
        have hszo := hX.size
        have hszw := hX2.size
        clear hR1 hT hTl hown0
        go_wp2_with (at_builtin; refine wpList_push rfl (.tmp 63) (.tmp 65) 66 rfl infoS Try.underlying66 rfl rfl rfl (by simp [Value.oneCell']) Hown0.out (by omega) (by omega) (by omega) ?_; intro v' w' hown hP; have HT3 := Lib.hid (OwnL.push2 (betRow a b k q) rfl HTl.out HTT.out hXj HR1.out (Nat.le_refl _) hszo hP hown); have hX4 := hP.ext (hX.trans' hXj) Hown0.out (Nat.le_refl _); clear hown hP)
        go_roundw
        case rel => exact ⟨q + 1, by omega, by go_num, hX4, by rw [betTo_succ]; exact HT3, Lib.hid (fun i r hi hr => by
          rcases Nat.lt_succ_iff_lt_or_eq.1 hi with hi | rfl
          · exact HQ.out i r hi hr
          · exact HJ.out r hr)⟩
        case measure => simp [intOf]; omega
      obtain ⟨b2, o2, rfl, hbw2, hcw2, -⟩ := HC.out j (by rw [Hn2.out]; exact hltj)
      rw [← atK_at (by rw [Hn2.out]; exact hltj)] at hcw2
      have hc1 := (hE2.cell' hbw1).trans hcw1
      have hc2 := (hE2.cell' hbw2).trans hcw2
      have hz1 := Nat.lt_of_lt_of_le hbw1 hE2.size
      have hz2 := Nat.lt_of_lt_of_le hbw2 hE2.size
      have hr := Hb2.out j hltj
      have Hdj := Lib.hid (Hd.out j)
      have Hjl : Hid (j < (betRow a b k q).length) := Lib.hid (by rw [betRow_length, Hn2.out]; exact hltj)
      have Htk : Hid ((betRow a b k q).take (j + 1) = (betRow a b k q).take j ++ [dAt a b k q j]) := Lib.hid (by
        rw [List.take_succ_eq_append_getElem Hjl.out, ← gi_get Hjl.out, betRow_gi (by rw [Hn2.out]; exact hltj)])
      have Hlt : Hid (((betRow a b k q).take j).length = j) := Lib.hid (by rw [List.length_take]; have := Hjl.out; omega)
      generalize (atK b j).p = r at *
      have m1 := dist_max p r
      have hD : 0 ≤ distI p r ∧ distI p r ≤ 2000 := by unfold distI; split <;> omega
      have hDD : 0 ≤ distI p r * distI p r ∧ distI p r * distI p r ≤ 4000000 := ⟨Int.mul_nonneg hD.1 hD.1, Int.le_trans (Int.mul_le_mul hD.2 hD.2 hD.1 (by omega)) (by omega)⟩
      have Hv1 : Hid (k = 1 → dAt a b k q j = distI p r) := Lib.hid (fun e => by rw [Hdj.out, e]; rfl)
      have Hv2 : Hid (k = 2 → dAt a b k q j = distI p r * distI p r) := Lib.hid (fun e => by rw [Hdj.out, e]; rfl)
      have Hno := Lib.hid (fun h => betB_no (a := a) (b := b) (k := k) (i := q) (j := j) (by rw [Hn.out]; exact hlt) (by rw [Hn2.out]; exact hltj) h)
      generalize hDe : dAt a b k q j = D at *
      have HDe := Lib.hid hDe
      clear hDe
      generalize distI p r = d at *
      clear Hdj hcw2
      have hszj := hXj.size
      have hR1 := HR.out
      unfold RowN at hR1
      rw [Hlt.out] at hR1
      obtain ⟨av, cv, rfl⟩ := slice_form hR1
      have HR1 := Lib.hid hR1
      clear hR1 HR
      rcases Hk.out with hk | hk
      · have HD := Lib.hid (Hv1.out hk)
        have d0 : (k == 2) = false := by simp [hk]
        have HE : Hid (d ≤ 99 → D ≤ 99) := Lib.hid (fun h => by rw [HD.out]; exact h)
        clear hk hDD Hk
        go_wp2_with fail
        refine wp_region_ext (by kernel_rfl) (by kernel_rfl) ?_
        repeat (go_big_quiet_step (fail))
        refine wpQuiet_nil ?_
        intro w7 hE7
        rw [m1] at *
        by_cases hgt : 99 < d
        · have d1 : decide (99 < d) = true := decide_eq_true hgt
          have HbB := Lib.hid (Hno.out (by rw [HD.out]; exact hgt))
          clear hgt
          go_wp2_with fail
          go_ret2
          exact ⟨.inl ⟨HbB.out, rfl⟩, hE2.trans' hE7⟩
        have d1 : decide (99 < d) = false := decide_eq_false hgt
        have HR7 := Lib.hid (row_ext HR1.out hE7)
        have hX7 := hXj.trans' hE7
        have hsz7 := hX7.size
        go_wp2_with (at_builtin; refine wpList_push rfl (.tmp 59) (.tmp 61) 31 rfl infoI Try.underlying31 rfl rfl rfl (by simp [Value.oneCell']) HR7.out (by omega) (by omega) hsz7 ?_; intro v' w' hown hP; have hXj2 := hP.ext hX7 HR7.out (Nat.le_refl _); have HR2 : Hid (RowN w' wo.heap.size v' ((betRow a b k q).take (j + 1))) := Lib.hid (by unfold RowN; rw [Htk.out, List.length_append, List.length_singleton, List.map_append, Hlt.out, HD.out]; exact hown); clear hown hP)
        go_roundw
        case rel => exact ⟨j + 1, by omega, by go_num, hXj2, HR2, Lib.hid (fun s hs => by
          rcases Nat.lt_succ_iff_lt_or_eq.1 hs with hs | rfl
          · exact HJ.out s hs
          · rw [HDe.out]; exact HE.out (by omega))⟩
        case measure => simp [intOf]; omega
      · have HD := Lib.hid (Hv2.out hk)
        have d0 : (k == 2) = true := by simp [hk]
        have HE : Hid (d * d ≤ 99 → D ≤ 99) := Lib.hid (fun h => by rw [HD.out]; exact h)
        clear hk Hk
        go_wp2_with fail
        refine wp_region_ext (by kernel_rfl) (by kernel_rfl) ?_
        repeat (go_big_quiet_step (fail))
        refine wpQuiet_nil ?_
        intro w7 hE7
        rw [m1] at *
        by_cases hgt : 99 < d * d
        · have d1 : decide (99 < d * d) = true := decide_eq_true hgt
          have HbB := Lib.hid (Hno.out (by rw [HD.out]; exact hgt))
          clear hgt
          go_wp2_with fail
          go_ret2
          exact ⟨.inl ⟨HbB.out, rfl⟩, hE2.trans' hE7⟩
        have d1 : decide (99 < d * d) = false := decide_eq_false hgt
        have HR7 := Lib.hid (row_ext HR1.out hE7)
        have hX7 := hXj.trans' hE7
        have hsz7 := hX7.size
        go_wp2_with (at_builtin; refine wpList_push rfl (.tmp 59) (.tmp 61) 31 rfl infoI Try.underlying31 rfl rfl rfl (by simp [Value.oneCell']) HR7.out (by omega) (by omega) hsz7 ?_; intro v' w' hown hP; have hXj2 := hP.ext hX7 HR7.out (Nat.le_refl _); have HR2 : Hid (RowN w' wo.heap.size v' ((betRow a b k q).take (j + 1))) := Lib.hid (by unfold RowN; rw [Htk.out, List.length_append, List.length_singleton, List.map_append, Hlt.out, HD.out]; exact hown); clear hown hP)
        go_roundw
        case rel => exact ⟨j + 1, by omega, by go_num, hXj2, HR2, Lib.hid (fun s hs => by
          rcases Nat.lt_succ_iff_lt_or_eq.1 hs with hs | rfl
          · exact HJ.out s hs
          · rw [HDe.out]; exact HE.out (by omega))⟩
        case measure => simp [intOf]; omega
end Go.Proofs.Ytfhgnmijigdlmaa.Tr
