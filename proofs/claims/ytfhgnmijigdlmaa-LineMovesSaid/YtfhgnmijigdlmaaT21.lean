/- CheckMoves, the program's. -/
import Derived.Test.YtfhgnmijigdlmaaT13
import Derived.Test.YtfhgnmijigdlmaaT8
import Derived.Test.YtfhgnmijigdlmaaMapR
import Derived.Test.YtfhgnmijigdlmaaPE
namespace Go.Proofs.Ytfhgnmijigdlmaa
open Go.RowKit Go.Maps
attribute [local go_sem] GW.cell

theorem leave_succ (M : List Move) (k : Nat) (hk : k < M.length) (p : Int) : leaveTo M p (k + 1) = leaveTo M p k + (if M[k].fr = p then M[k].m else 0) := by
  show _ + (if (mvK M k).fr = p then (mvK M k).m else 0) = _; rw [mvK_at hk]; rfl
theorem come_succ (M : List Move) (k : Nat) (hk : k < M.length) (p : Int) : comeTo M p (k + 1) = comeTo M p k + (if M[k].to = p then M[k].m else 0) := by
  show _ + (if (mvK M k).to = p then (mvK M k).m else 0) = _; rw [mvK_at hk]; rfl
theorem leave_bd {M : List Move} (h : allMoves M = true) (p : Int) : ∀ k, k ≤ M.length → (0 ≤ leaveTo M p k ∧ leaveTo M p k ≤ k * 150) ∧ (0 ≤ comeTo M p k ∧ comeTo M p k ≤ k * 150)
  | 0, _ => by simp [leaveTo, comeTo, sumR]
  | k + 1, hk => by
    have ih := leave_bd h p k (by omega)
    have := (allMoves_at h (show k < M.length by omega)).2.2
    rw [leave_succ M k hk, come_succ M k hk]
    split <;> split <;> omega
theorem chk_first {a b : List Atom} {M : List Move} (h : bothErr a b ≠ 0) : chkErr a b M = bothErr a b := by unfold chkErr; rw [if_pos h]
theorem chk_second {a b : List Atom} {M : List Move} (h : bothErr a b = 0) (h2 : movesErr M ≠ 0) : chkErr a b M = movesErr M := by unfold chkErr; rw [if_neg (by simpa using h), if_pos h2]
theorem chk_third {a b : List Atom} {M : List Move} (h : bothErr a b = 0) (h2 : movesErr M = 0) (h3 : linePair a b ≠ 0) : chkErr a b M = linePair a b := by
  unfold linePair at h3 ⊢
  rw [if_neg (by simpa using h)] at h3 ⊢
  unfold chkErr; rw [if_neg (by simpa using h), if_neg (by simpa using h2)]
  split
  · rfl
  · rename_i h4; rw [if_neg h4] at h3; exact absurd rfl h3
theorem chk_fourth {a b : List Atom} {M : List Move} (h2 : movesErr M = 0) (h3 : linePair a b = 0) : chkErr a b M = if balB a b M then 0 else 7 := by
  obtain ⟨v1, v2, v3⟩ := linePair_ok h3
  unfold chkErr; rw [if_neg (by simp [bothErr, v1, v2]), if_neg (by simpa using h2), if_neg (by simpa using v3)]
theorem wf_thr (i : Nat) (hi : i < 2001) : (Lit.int .i64 (thr i)).wf = true := wf_small (by unfold thr; omega)
theorem bal_yes {a b : List Atom} {M : List Move} (h1 : ∀ x, (Lit.int .i64 x).wf = true → massAt a x - leaveTo M x M.length = 0) (h2 : ∀ x, (Lit.int .i64 x).wf = true → massAt b x - comeTo M x M.length = 0) : balB a b M = true := by
  unfold balB
  rw [List.all_eq_true]
  intro i hi
  have hi := List.mem_range.1 hi
  have e1 := h1 _ (wf_thr i hi)
  have e2 := h2 _ (wf_thr i hi)
  unfold balAt
  rw [Bool.and_eq_true, decide_eq_true_eq, decide_eq_true_eq]
  omega
theorem bal_no {a b : List Atom} {M : List Move} (ha : valLoad a = 0) (hb : valLoad b = 0) (hM : allMoves M = true) {x : Int} (h : massAt a x - leaveTo M x M.length ≠ 0 ∨ massAt b x - comeTo M x M.length ≠ 0) : balB a b M = false := by
  cases e : balB a b M
  · rfl
  · have := (balB_all ha hb hM).1 e x
    unfold balAt at this
    rw [Bool.and_eq_true, decide_eq_true_eq, decide_eq_true_eq] at this
    omega
/-- what is behind place k of the two maps -/
def pickB (b1 b2 : Nat) (j : Nat) : Nat := if j = 0 then b1 else b2
def pickF (f1 f2 : Int → Int) (j : Nat) : Int → Int := if j = 0 then f1 else f2
set_option maxHeartbeats 8000000 in
set_option maxRecDepth 20000 in
theorem f39_c (a1 a2 a3 : Option Addr) (n c n2 c2 n3 c3 : Nat) (a b : List Atom) (M : List Move) (w : World) (hl : Atoms w a1 a) (hn : a.length = n) (hlen : n ≤ 140737488355328) (hm : Atoms w a2 b) (hn2 : b.length = n2) (hlen2 : n2 ≤ 140737488355328) (hq : Moves w a3 M) (hn3 : M.length = n3) (hlen3 : n3 ≤ 140737488355328) :
    Calls Try.prog 39 #[.slice a1 n c, .slice a2 n2 c2, .slice a3 n3 c3] w fun e w' => e = .returned (.int .i64 (chkErr a b M)) ∧ Ext w w' := by
  have C1 := f64_c a1 a2 n c n2 c2 a b w hl hn hlen hm hn2 hlen2
  have C2 := Lib.hid (fun W (h : Ext w W) => f83_c a3 n3 c3 M W (hq.ext h) hn3 hlen3)
  have C3 := Lib.hid (fun W (h : Ext w W) => f65_c a1 a2 n c n2 c2 a b W (hl.ext h) hn hlen (hm.ext h) hn2 hlen2)
  by_cases h1 : bothErr a b = 0
  case neg =>
    have hb : (bothErr a b != 0) = true := by simp [h1]
    have C1 := Lib.hid C1
    rw [chk_first h1]
    clear h1
    generalize bothErr a b = E at *
    go_enter Try.func39, Try.ntmps39
    go_wp2_with fail
    refine C1.out.mono ?_
    rintro e w1 ⟨rfl, hE1⟩
    go_wp2_with fail
    go_ret
    exact ⟨rfl, hE1⟩
  by_cases h2 : movesErr M = 0
  case neg =>
    have hb : (movesErr M != 0) = true := by simp [h2]
    rw [chk_second h1 h2]
    rw [h1] at C1
    have C1 := Lib.hid C1
    clear h1 h2
    generalize movesErr M = E at *
    go_enter Try.func39, Try.ntmps39
    go_wp2_with fail
    refine C1.out.mono ?_
    rintro e w1 ⟨rfl, hE1⟩
    go_wp2_with fail
    refine (C2.out _ hE1).mono ?_
    rintro e w2 ⟨rfl, hX2⟩
    have hE2 := hE1.trans' hX2
    go_wp2_with fail
    go_ret
    exact ⟨rfl, hE2⟩
  by_cases h3 : linePair a b = 0
  case neg =>
    have hb : (linePair a b != 0) = true := by simp [h3]
    rw [chk_third h1 h2 h3]
    rw [h1] at C1
    rw [h2] at C2
    have C1 := Lib.hid C1
    clear h1 h2 h3
    generalize linePair a b = E at *
    go_enter Try.func39, Try.ntmps39
    go_wp2_with fail
    refine C1.out.mono ?_
    rintro e w1 ⟨rfl, hE1⟩
    go_wp2_with fail
    refine (C2.out _ hE1).mono ?_
    rintro e w2 ⟨rfl, hX2⟩
    have hE2 := hE1.trans' hX2
    go_wp2_with fail
    refine (C3.out _ hE2).mono ?_
    rintro e w3 ⟨rfl, hX3⟩
    have hE3 := hE2.trans' hX3
    go_wp2_with fail
    go_ret
    exact ⟨rfl, hE3⟩
  obtain ⟨v1, v2, v3⟩ := linePair_ok h3
  obtain ⟨m1, m2⟩ := movesErr_ok h2
  have F0 : balB a b M = true → chkErr a b M = 0 := fun h => by rw [chk_fourth h2 h3, h]; rfl
  have F7 : balB a b M = false → chkErr a b M = 7 := fun h => by rw [chk_fourth h2 h3, h]; rfl
  have G0 := Lib.hid (fun h1 h2 => F0 (bal_yes (a := a) (b := b) (M := M) h1 h2))
  have G7 := Lib.hid (fun x h => F7 (bal_no v1 v2 m2 (x := x) h))
  have C4 := Lib.hid (fun W (h : Ext w W) => f73_c a1 n c a W (hl.ext h) hn v1)
  have C5 := Lib.hid (fun W (h : Ext w W) => f73_c a2 n2 c2 b W (hm.ext h) hn2 v2)
  have Hma := Lib.hid (fun p => massAt_bd (fine_load v1) p)
  have Hmb := Lib.hid (fun p => massAt_bd (fine_load v2) p)
  have Hta := Lib.hid (fun p => load_mass v1 p)
  have Htb := Lib.hid (fun p => load_mass v2 p)
  have Hlv := Lib.hid (fun p k hk => leave_bd m2 p k hk)
  have HM := Lib.hid (fun k (hk : k < M.length) => allMoves_at m2 hk)
  have Hls := Lib.hid (fun k hk p => leave_succ M k hk p)
  have Hcs := Lib.hid (fun k hk p => come_succ M k hk p)
  have HQ := Lib.hid hq
  rw [h1] at C1
  rw [h2] at C2
  rw [h3] at C3
  have C1 := Lib.hid C1
  subst hn3
  clear hn hn2 h1 h2 h3 v1 v2 v3 F0 F7 hq m2
  generalize chkErr a b M = E at *
  go_enter Try.func39, Try.ntmps39
  go_wp2_with fail
  refine C1.out.mono ?_
  rintro e w1 ⟨rfl, hE1⟩
  go_wp2_with fail
  refine (C2.out _ hE1).mono ?_
  rintro e w2 ⟨rfl, hX2⟩
  have hE2 := hE1.trans' hX2
  clear hX2
  go_wp2_with fail
  refine (C3.out _ hE2).mono ?_
  rintro e w3 ⟨rfl, hX3⟩
  have hE3 := hE2.trans' hX3
  clear hX3
  go_wp2_with fail
  refine (C4.out _ hE3).mono ?_
  rintro e w4 ⟨b1, rfl, hM1, hb1, hX4⟩
  have hE4 := hE3.trans' hX4
  go_wp2_with fail
  refine (C5.out _ hE4).mono ?_
  rintro e w5 ⟨b2, rfl, hM2, hb2, hX5⟩
  have hE5 := hE4.trans' hX5
  have hb12 : b1 < b2 := Nat.lt_of_lt_of_le hM1.lt hb2
  have hb1w : w.heap.size ≤ b1 := Nat.le_trans hE3.size hb1
  have hb2w : w.heap.size ≤ b2 := Nat.le_trans hE4.size hb2
  have HM1 := Lib.hid (hM1.ext hX5)
  have HM2 := Lib.hid hM2
  clear hM1 hM2 hX4 hX5 hb1 hb2 C1 C2 C3 C4 C5
  go_wp2_with fail
  go_loopw [41] (fun i wr => ∃ k : Nat, k ≤ M.length ∧ i = .int .i64 k ∧ Ext w wr ∧ Hid (MapI wr b1 (fun p => massAt a p - leaveTo M p k) (6 + k)) ∧ Hid (MapI wr b2 (fun p => massAt b p - comeTo M p k) (6 + k))) (fun i _ => M.length - (intOf i).toNat)
  case atStart => exact ⟨0, Nat.zero_le _, rfl, hE5, HM1.out.congr (fun x _ => by simp [leaveTo, sumR]), HM2.out.congr (fun x _ => by simp [comeTo, sumR])⟩
  case round =>
    obtain ⟨k, hk, rfl, hE, H1, H2⟩ := hrel
    by_cases hlt : k < M.length
    · obtain ⟨bl, off, rfl, hbl, hx, hy, hz⟩ := HQ.out.ext hE k hlt
      have hF := HM.out k hlt
      have Ls := Lib.hid (Hls.out k hlt)
      have Cs := Lib.hid (Hcs.out k hlt)
      generalize M[k].fr = fr at *
      generalize M[k].to = tt at *
      generalize M[k].m = mm at *
      have q1 := Hma.out fr
      have q2 := Hmb.out tt
      have q3 := (Hlv.out fr k hk).1
      have q4 := (Hlv.out tt k hk).2
      have q5 := Hta.out fr
      have q6 := Htb.out tt
      have HA1 := H1.out.alloc (.cells #[.int .i64 fr, .int .i64 tt, .int .i64 mm] 73)
      have HA2 := H2.out.alloc (.cells #[.int .i64 fr, .int .i64 tt, .int .i64 mm] 73)
      obtain ⟨va, hva⟩ : ∃ va, va = massAt a fr - leaveTo M fr k := ⟨_, rfl⟩
      obtain ⟨vb, hvb⟩ : ∃ vb, vb = massAt b tt - comeTo M tt k := ⟨_, rfl⟩
      have k1 : IntKind.i64.wrap (va - mm) = va - mm := IntWalk.i64_in _ (by omega)
      have k2 : IntKind.i64.wrap (vb - mm) = vb - mm := IntWalk.i64_in _ (by omega)
      have look1 := HA1.look Try.underlying86 (x := fr) (by omega)
      rw [← hva] at look1
      obtain ⟨X, hrun, hX, hg⟩ := HA1.store Try.underlying86 (by omega) (x := fr) (v := va - mm) (by omega) (by omega)
      have hEa := hE.alloc hE.size (.cells #[.int .i64 fr, .int .i64 tt, .int .i64 mm] 73)
      have hE1' := hEa.grown hg (by have := hE.size; simp; omega) (fun j ej => by simp at ej; omega)
      have hbA : BlkC (wr.alloc (.cells #[.int .i64 fr, .int .i64 tt, .int .i64 mm] 73)) wr.heap.size #[.int .i64 fr, .int .i64 tt, .int .i64 mm] 73 := BlkC.new _ _ _
      have hb1lt := H1.out.lt
      have hbX := hbA.grown hg (by simp; omega)
      have cx0 := hbX.cellv 0 (v := .int .i64 fr) rfl
      have cx1 := hbX.cellv 1 (v := .int .i64 tt) rfl
      have cx2 := hbX.cellv 2 (v := .int .i64 mm) rfl
      have HB2 := HA2.kept hg (by simp; omega)
      have look2 := HB2.look Try.underlying86 (x := tt) (by omega)
      rw [← hvb] at look2
      obtain ⟨Y, hrun2, hY, hg2⟩ := HB2.store Try.underlying86 (by omega) (x := tt) (v := vb - mm) (by omega) (by omega)
      have hE2' := hE1'.grown hg2 (by have := hE1'.size; omega) (fun j ej => by simp at ej; omega)
      have HX1 : Hid (MapI Y b1 (fun p => massAt a p - leaveTo M p (k + 1)) (6 + (k + 1))) := Lib.hid ((hX.kept hg2 (by simp; omega)).congr fun x _ => by
        unfold updF; rw [Ls.out]; split
        · rename_i e; subst e; rw [if_pos rfl, hva]; omega
        · rename_i e; rw [if_neg (fun h => e h.symm)]; show massAt a x - leaveTo M x k = _; omega)
      have HX2 : Hid (MapI Y b2 (fun p => massAt b p - comeTo M p (k + 1)) (6 + (k + 1))) := Lib.hid (hY.congr fun x _ => by
        unfold updF; rw [Cs.out]; split
        · rename_i e; subst e; rw [if_pos rfl, hvb]; omega
        · rename_i e; rw [if_neg (fun h => e h.symm)]; show massAt b x - comeTo M x k = _; omega)
      clear hX hY hg hg2 hF HA1 HA2 HB2 hbX hbA hva hvb q1 q2 q3 q4 q5 q6
      go_wp2_with fail
      go_roundw
      case rel => exact ⟨k + 1, by omega, by go_num, hE2', HX1, HX2⟩
      case measure => simp [intOf]; omega
    · obtain rfl : k = M.length := by omega
      have K0 : Hid (∀ j, j < 2 → MapI wr (pickB b1 b2 j) (pickF (fun p => massAt a p - leaveTo M p M.length) (fun p => massAt b p - comeTo M p M.length) j) (6 + M.length)) := Lib.hid (fun j hj => by
        match j, hj with
        | 0, _ => exact H1.out
        | 1, _ => exact H2.out)
      have Z7 : Hid (∀ j x, pickF (fun p => massAt a p - leaveTo M p M.length) (fun p => massAt b p - comeTo M p M.length) j x ≠ 0 → E = 7) := Lib.hid (fun j x h => G7.out x (by
        unfold pickF at h
        split at h
        · exact .inl h
        · exact .inr h))
      have Z0 : Hid ((∀ j, j < 2 → ∀ x, (Lit.int .i64 x).wf = true → pickF (fun p => massAt a p - leaveTo M p M.length) (fun p => massAt b p - comeTo M p M.length) j x = 0) → E = 0) := Lib.hid (fun h => G0.out (fun x hx => h 0 (by omega) x hx) (fun x hx => h 1 (by omega) x hx))
      have hB : ∀ j, j < 2 → w.heap.size ≤ pickB b1 b2 j := fun j hj => by unfold pickB; split <;> assumption
      have hbs1 := H1.out.lt
      have hbs2 := H2.out.lt
      clear H1 H2 G0 G7 Hma Hmb Hta Htb Hlv Hls Hcs HM HM1 HM2
      have P0 : Value.map (some b1) = .map (some (pickB b1 b2 0)) := rfl
      have P1 : Value.map (some b2) = .map (some (pickB b1 b2 1)) := rfl
      rw [P0, P1]
      generalize pickF (fun p => massAt a p - leaveTo M p M.length) (fun p => massAt b p - comeTo M p M.length) = pf at *
      generalize pickB b1 b2 = pb at *
      have K1 : Hid (∀ j, j < 2 → MapI (wr.alloc (.cells #[.map (some (pb 0)), .map (some (pb 1))] 86)) (pb j) (pf j) (6 + M.length)) := Lib.hid fun j hj => (K0.out j hj).alloc _
      have hEn := hE.alloc hE.size (.cells #[.map (some (pb 0)), .map (some (pb 1))] 86)
      have KB : Hid (∀ j, j < 2 → (wr.alloc (.cells #[.map (some (pb 0)), .map (some (pb 1))] 86)).cell? ⟨wr.heap.size, j, none⟩ = some (.map (some (pb j)))) := Lib.hid fun j hj => by
        match j, hj with
        | 0, _ => exact (BlkC.new wr #[.map (some (pb 0)), .map (some (pb 1))] 86).cellv 0 rfl
        | 1, _ => exact (BlkC.new wr #[.map (some (pb 0)), .map (some (pb 1))] 86).cellv 1 rfl
      have hBlt : wr.heap.size < (wr.alloc (.cells #[.map (some (pb 0)), .map (some (pb 1))] 86)).heap.size := by simp
      clear K0 hE
      go_wp2_with fail
      generalize wr.heap.size = B at *
      generalize wr.alloc (.cells #[.map (some (pb 0)), .map (some (pb 1))] 86) = wn at *
      go_loopw [64] (fun i wo => ∃ k : Nat, k ≤ 2 ∧ i = .int .i64 k ∧ Ext wn wo ∧ Hid (∀ j, j < k → ∀ x, (Lit.int .i64 x).wf = true → pf j x = 0)) (fun i _ => 2 - (intOf i).toNat)
      case atStart => exact ⟨0, by omega, rfl, Below.refl _ _, fun j hj => by omega⟩
      case round =>
        obtain ⟨k, hk2, rfl, hX, Z⟩ := hrel
        by_cases hlt : k < 2
        · have hM := (K1.out k hlt).ext hX
          have hcell := (hX.cell' hBlt (off := k)).trans (KB.out k hlt)
          have hbk := hB k hlt
          have Zk := Lib.hid (Z7.out k)
          have Zf : Hid ((∀ x, (Lit.int .i64 x).wf = true → pf k x = 0) → ∀ j, j < k + 1 → ∀ x, (Lit.int .i64 x).wf = true → pf j x = 0) := Lib.hid fun h j hj => by
            by_cases e : j = k
            · subst e; exact h
            · exact Z.out j (by omega)
          generalize pb k = bb at *
          generalize pf k = ff at *
          generalize wr = wo at *
          go_wp2_with (first
            | (at_range; refine wpList_range_I _ rfl _ 86 rfl Try.underlying86 bb _ ff rfl hM ?_; intro w0 cnt0 hR0 hX0)
            | go_in)
          go_frame
          go_loopw [17] (fun _ wi => ∃ cnt, RanI wi bb wo.heap.size (6 + M.length) ff cnt ∧ Ext wo wi) (fun _ wi => wi.rangeLeft bb wo.heap.size)
          case atStart => exact ⟨_, hR0, hX0⟩
          case round =>
            obtain ⟨cnt, hR, hXi⟩ := hrel
            go_wp2_with (first
              | (at_next; refine wpList_next_I _ rfl _ rfl bb wo.heap.size _ ff _ rfl hR ?_ ?_)
              | go_in)
            · intro hz
              go_wp2
              go_roundw
              case rel => exact ⟨k + 1, by omega, by go_num, hX.trans' hXi, Zf.out hz⟩
              case measure => simp [intOf]; omega
            · intro x cc w6 cnt6 hwx hfx hgo hcl hg6 hen
              have hX6 : Ext wo w6 := hXi.grown hg6 hXi.size (fun j ej => by simp at ej; omega)
              by_cases hc0 : cc = 0
              · have hR6 := hgo hc0
                subst hc0
                go_wp2
                go_roundw
                case rel => exact ⟨cnt6, hR6⟩
                case measure => rw [hR6.left_eq, hR.left_eq]; exact hcl
              · have hE7 := Zk.out x (by rw [hfx]; exact hc0)
                have hbc : (cc != 0) = true := by simp [hc0]
                subst hE7
                have hEf := Lib.hid (Ext.trans' hEn (Ext.trans' hX hX6))
                go_wp2
                go_ret
                exact ⟨rfl, hEf.out⟩
        · obtain rfl : k = 2 := by omega
          have e0 := Z0.out Z.out
          subst e0
          go_wp2_with fail
          go_ret
          exact ⟨rfl, Ext.trans' hEn hX⟩
end Go.Proofs.Ytfhgnmijigdlmaa
