/- CheckMoves, the reference's. -/
import Derived.Test.YtfhgnmijigdlmaaT21
import Derived.Test.YtfhgnmijigdlmaaT20
namespace Go.Proofs.Ytfhgnmijigdlmaa
open Go.RowKit
attribute [local go_sem] GW.cell
theorem len_units {a b : List Atom} (v1 : valLoad a = 0) (v2 : valLoad b = 0) : (((unitsL a).length : Int) != ((unitsL b).length : Int)) = decide (totalL a ≠ totalL b) := by
  rw [units_len (fine_load v1), units_len (fine_load v2), Bool.eq_iff_iff]
  simp
def endsM (M : List Move) : List Int := M.flatMap fun m => [m.fr, m.to]
theorem ends_len (M : List Move) : (endsM M).length = 2 * M.length := by
  induction M with
  | nil => rfl
  | cons m M ih => unfold endsM at ih ⊢; simp only [List.flatMap_cons, List.length_append, List.length_cons, List.length_nil] at ih ⊢; omega
theorem ends_take {M : List Move} {k : Nat} (hk : k < M.length) (L : List Int) : L ++ endsM (M.take (k + 1)) = (L ++ endsM (M.take k)) ++ [M[k].fr, M[k].to] := by
  have e : endsM (M.take (k + 1)) = endsM (M.take k) ++ [M[k].fr, M[k].to] := by
    rw [List.take_succ_eq_append_getElem hk]
    unfold endsM
    rw [List.flatMap_append]
    simp only [List.flatMap_cons, List.flatMap_nil, List.append_nil]
  rw [e, List.append_assoc]
theorem bal_list {a b : List Atom} {M : List Move} (ha : valLoad a = 0) (hb : valLoad b = 0) (h : ∀ p ∈ placesL2 a b ++ endsM M, balAt a b M p = true) : balB a b M = true := by
  unfold balB
  rw [List.all_eq_true]
  intro i hi
  have hi := List.mem_range.1 hi
  by_cases hp : thr i ∈ placesL2 a b ++ endsM M
  · exact h _ hp
  have h1 : ¬ thr i ∈ placesL2 a b := fun e => hp (List.mem_append_left _ e)
  have h2 : ¬ thr i ∈ endsM M := fun e => hp (List.mem_append_right _ e)
  have h3 : ¬ onPlace a b (thr i) = true := fun e => h1 (places_mem.2 ⟨by unfold thr; omega, e⟩)
  obtain ⟨z1, z2⟩ := onPlace_no (fine_load ha) (fine_load hb) h3
  have hm : ∀ j, (hj : j < M.length) → M[j].fr ≠ thr i ∧ M[j].to ≠ thr i := fun j hj => by
    refine ⟨fun e => h2 ?_, fun e => h2 ?_⟩
    · unfold endsM; rw [List.mem_flatMap]; exact ⟨M[j], List.getElem_mem hj, by simp [e]⟩
    · unfold endsM; rw [List.mem_flatMap]; exact ⟨M[j], List.getElem_mem hj, by simp [e]⟩
  have hz : ∀ q, q ≤ M.length → leaveTo M (thr i) q = 0 ∧ comeTo M (thr i) q = 0 := fun q hq => by
    induction q with
    | zero => simp [leaveTo, comeTo, sumR]
    | succ q ih =>
      rw [leave_succ M q hq, come_succ M q hq, if_neg (hm q hq).1, if_neg (hm q hq).2, (ih (by omega)).1, (ih (by omega)).2]
      simp
  unfold balAt
  rw [(hz _ (Nat.le_refl _)).1, (hz _ (Nat.le_refl _)).2, z1, z2]
  rfl
theorem chk_total {a b : List Atom} {M : List Move} (h1 : bothErr a b = 0) (h2 : movesErr M = 0) (h3 : totalL a ≠ totalL b) : chkErr a b M = 5 := by
  unfold chkErr; rw [if_neg (by simpa using h1), if_neg (by simpa using h2), if_pos h3]
set_option maxHeartbeats 4000000 in
theorem f88_c (a : Option Addr) (n c : Nat) (M : List Move) (w : World) (hl : Moves w a M) (hn : M.length = n) (hlen : n ≤ 140737488355328) :
    Calls Try.prog 88 #[.slice a n c] w fun e w' => e = .returned (.int .i64 (movesErr M)) ∧ Ext w w' := by
  subst hn
  by_cases h12 : 12 < M.length
  · have hd : decide (12 < (M.length : Int)) = true := by simp; omega
    go_enter Try.func88, Try.ntmps88
    go_wp2_with fail
    go_ret
    exact ⟨ret_int (by unfold movesErr; rw [if_pos h12]), Below.refl _ _⟩
  have hd : decide (12 < (M.length : Int)) = false := by simp; omega
  go_enter Try.func88, Try.ntmps88
  go_wp2_with fail
  go_loopw [3] (fun i wr => ∃ k : Nat, k ≤ M.length ∧ i = .int .i64 k ∧ Ext w wr ∧ Hid (∀ j, j < k → goodMove M j = true)) (fun i _ => M.length - (intOf i).toNat)
  case atStart => exact ⟨0, Nat.zero_le _, rfl, Below.refl _ _, fun j hj => by omega⟩
  case round =>
    obtain ⟨k, hk, rfl, hE, H⟩ := hrel
    by_cases hlt : k < M.length
    case neg =>
      obtain rfl : k = M.length := by omega
      go_wp2_with fail
      go_ret
      exact ⟨ret_int (by unfold movesErr; rw [if_neg h12, if_pos (allMoves_yes H.out)]), hE⟩
    obtain ⟨b, off, rfl, hb, hx, hy, hz⟩ := hl.ext hE k hlt
    rcases Bool.eq_false_or_eq_true (withinB M[k].fr (-1000) 1000) with h1 | h1
    case inr =>
      have Hg := Lib.hid (goodMove_fr hlt h1)
      generalize M[k].fr = ff at *
      generalize M[k].to = tt at *
      generalize M[k].m = mm at *
      go_wp2_with fail
      refine (f92_c _ _).mono ?_
      rintro e w' ⟨rfl, rfl⟩
      rw [h1]
      go_wp2_with fail
      go_ret
      exact ⟨ret_int (by unfold movesErr; rw [if_neg h12, allMoves_no hlt Hg.out]; rfl), hE⟩
    rcases Bool.eq_false_or_eq_true (withinB M[k].to (-1000) 1000) with h2 | h2
    case inr =>
      have Hg := Lib.hid (goodMove_to hlt h2)
      generalize M[k].fr = ff at *
      generalize M[k].to = tt at *
      generalize M[k].m = mm at *
      go_wp2_with fail
      refine (f92_c _ _).mono ?_
      rintro e w' ⟨rfl, rfl⟩
      rw [h1]
      go_wp2_with fail
      refine (f92_c _ _).mono ?_
      rintro e w' ⟨rfl, rfl⟩
      rw [h2]
      go_wp2_with fail
      go_ret
      exact ⟨ret_int (by unfold movesErr; rw [if_neg h12, allMoves_no hlt Hg.out]; rfl), hE⟩
    rcases Bool.eq_false_or_eq_true (withinB M[k].m 1 150) with h3 | h3
    case inr =>
      have Hg := Lib.hid (goodMove_m hlt h3)
      generalize M[k].fr = ff at *
      generalize M[k].to = tt at *
      generalize M[k].m = mm at *
      go_wp2_with fail
      refine (f92_c _ _).mono ?_
      rintro e w' ⟨rfl, rfl⟩
      rw [h1]
      go_wp2_with fail
      refine (f92_c _ _).mono ?_
      rintro e w' ⟨rfl, rfl⟩
      rw [h2]
      go_wp2_with fail
      refine (f75_c _ _ _ _).mono ?_
      rintro e w' ⟨rfl, rfl⟩
      rw [h3]
      go_wp2_with fail
      go_ret
      exact ⟨ret_int (by unfold movesErr; rw [if_neg h12, allMoves_no hlt Hg.out]; rfl), hE⟩
    have Hg := Lib.hid (goodMove_yes hlt h1 h2 h3)
    generalize M[k].fr = ff at *
    generalize M[k].to = tt at *
    generalize M[k].m = mm at *
    go_wp2_with fail
    refine (f92_c _ _).mono ?_
    rintro e w' ⟨rfl, rfl⟩
    rw [h1]
    go_wp2_with fail
    refine (f92_c _ _).mono ?_
    rintro e w' ⟨rfl, rfl⟩
    rw [h2]
    go_wp2_with fail
    refine (f75_c _ _ _ _).mono ?_
    rintro e w' ⟨rfl, rfl⟩
    rw [h3]
    go_wp2_with fail
    go_roundw
    case rel =>
      refine ⟨k + 1, by omega, by go_num, hE, fun j hj => ?_⟩
      rcases Nat.lt_or_ge j k with e | e
      · exact H.out j e
      · obtain rfl : j = k := by omega
        exact Hg.out
    case measure => simp [intOf]; omega
def RetRow (L : List Int) (w : World) (e : Ending) (w' : World) : Prop := ∃ v, e = .returned v ∧ w'.ownsRow w.heap.size 3 1 v L.length (L.map (.int .i64)) ∧ Ext w w'
set_option maxRecDepth 20000 in
set_option maxHeartbeats 4000000 in
theorem f70_own (a1 a2 : Option Addr) (n c n2 c2 : Nat) (a b : List Atom) (w : World) (hl : Atoms w a1 a) (hn : a.length = n) (hlen : n ≤ 1000000) (hm : Atoms w a2 b) (hn2 : b.length = n2) (hlen2 : n2 ≤ 1000000) :
    Calls Try.prog 70 #[.slice a1 n c, .slice a2 n2 c2] w (RetRow (placesL2 a b) w) := by
  have C1 := Lib.hid (fun p W (h : Ext w W) => f77_c a1 n c a p W (hl.ext h) hn hlen)
  have C2 := Lib.hid (fun p W (h : Ext w W) => f77_c a2 n2 c2 b p W (hm.ext h) hn2 hlen2)
  have Hle := Lib.hid (fun k => placesTo_len a b k)
  have Hs := Lib.hid (fun k => placesTo_succ a b k)
  have Ho : Hid (∀ p, onPlace a b p = (decide (0 < massAt a p) || decide (0 < massAt b p))) := Lib.hid (fun p => rfl)
  have H0 : Hid (placesTo a b 0 = []) := Lib.hid rfl
  have H1 : Hid (placesL2 a b = placesTo a b 2001) := Lib.hid rfl
  obtain ⟨i0, hi0⟩ := info_parts infoI
  have Hi := Lib.hid hi0
  clear hi0 hn hn2
  generalize placesL2 a b = LL at *
  generalize placesTo a b = PT at *
  generalize onPlace a b = OP at *
  generalize massAt a = MA at *
  generalize massAt b = MB at *
  go_enter Try.func70, Try.ntmps70
  go_wp2_with fail
  go_loopw [5, 6] (fun v i wr => ∃ k : Nat, k ≤ 2001 ∧ i = .int .i64 ((k : Int) - 1000) ∧ Ext w wr ∧ Hid (wr.ownsRow w.heap.size 3 1 v (PT k).length ((PT k).map (.int .i64)))) (fun _ i _ => (1001 - intOf i).toNat)
  case atStart => exact ⟨0, Nat.zero_le _, rfl, Below.refl _ _, by rw [H0.out]; exact World.ownsRow_nil _ _ _ _⟩
  case round =>
    obtain ⟨k, hk, rfl, hE, H⟩ := hrel
    by_cases hlt : k < 2001
    · have hlt2 : (k : Int) - 1000 ≤ 1000 := by omega
      have hs := Hs.out k
      have ho := Ho.out (thr k)
      have et : thr k = (k : Int) - 1000 := rfl
      rw [et] at hs ho
      have hle := Hle.out k
      by_cases hA : 0 < MA ((k : Int) - 1000)
      · have d1 : decide (0 < MA ((k : Int) - 1000)) = true := by simpa using hA
        rw [d1] at ho
        rw [ho, if_pos (by simp)] at hs
        have Hs2 := Lib.hid hs
        clear hs ho hA et
        have Hn := Lib.hid (reads_ints (ints_new1 w ((k : Int) - 1000) 3 _ rfl))
        go_wp2_with fail
        refine (C1.out _ _ hE).mono ?_
        rintro e w' ⟨rfl, rfl⟩
        have Hn := Lib.hid (reads_ints (ints_new1 wr ((k : Int) - 1000) 3 _ rfl))
        have hsz := hE.size
        go_wp2_with (at_builtin; refine wpList_append_any _ rfl (.tmp 21) (.tmp 23) 31 rfl w.heap.size 3 i0 (.int .i64 0) 1 8 Try.underlying31 Hi.out.1 Hi.out.2.1 Hi.out.2.2.1 Hi.out.2.2.2 rfl (by omega) _ (PT k).length _ rfl (H.out.alloc _) _ (some ⟨wr.heap.size, 0, none⟩) 1 1 ([(k : Int) - 1000].map (.int .i64)) rfl Hn.out (by simp [Value.oneCell']) (by unfold maxLen; omega) (by omega) (by simp; omega) ?_; intro v' w4 hown hgrow hat; have hE4 := ext_append hE H.out (Nat.le_refl _) hgrow; rw [← List.map_append] at hown; have H4 : Hid (w4.ownsRow w.heap.size 3 1 v' (PT (k + 1)).length ((PT (k + 1)).map (.int .i64))) := (by rw [Hs2.out, List.length_append]; exact hown); clear hat hgrow hown)
        go_roundw
        case rel => exact ⟨k + 1, by omega, by congr 1 <;> omega, hE4, H4⟩
        case measure => simp [intOf]; omega
      have d1 : decide (0 < MA ((k : Int) - 1000)) = false := by simpa using hA
      rw [d1, Bool.false_or] at ho
      by_cases hB : 0 < MB ((k : Int) - 1000)
      · have d2 : decide (0 < MB ((k : Int) - 1000)) = true := by simpa using hB
        rw [d2] at ho
        rw [ho, if_pos (by simp)] at hs
        have Hs2 := Lib.hid hs
        clear hs ho hA hB et
        go_wp2_with fail
        refine (C1.out _ _ hE).mono ?_
        rintro e w' ⟨rfl, rfl⟩
        go_wp2_with fail
        refine (C2.out _ _ hE).mono ?_
        rintro e w' ⟨rfl, rfl⟩
        have Hn := Lib.hid (reads_ints (ints_new1 wr ((k : Int) - 1000) 3 _ rfl))
        have hsz := hE.size
        go_wp2_with (at_builtin; refine wpList_append_any _ rfl (.tmp 21) (.tmp 23) 31 rfl w.heap.size 3 i0 (.int .i64 0) 1 8 Try.underlying31 Hi.out.1 Hi.out.2.1 Hi.out.2.2.1 Hi.out.2.2.2 rfl (by omega) _ (PT k).length _ rfl (H.out.alloc _) _ (some ⟨wr.heap.size, 0, none⟩) 1 1 ([(k : Int) - 1000].map (.int .i64)) rfl Hn.out (by simp [Value.oneCell']) (by unfold maxLen; omega) (by omega) (by simp; omega) ?_; intro v' w4 hown hgrow hat; have hE4 := ext_append hE H.out (Nat.le_refl _) hgrow; rw [← List.map_append] at hown; have H4 : Hid (w4.ownsRow w.heap.size 3 1 v' (PT (k + 1)).length ((PT (k + 1)).map (.int .i64))) := (by rw [Hs2.out, List.length_append]; exact hown); clear hat hgrow hown)
        go_roundw
        case rel => exact ⟨k + 1, by omega, by congr 1 <;> omega, hE4, H4⟩
        case measure => simp [intOf]; omega
      have d2 : decide (0 < MB ((k : Int) - 1000)) = false := by simpa using hB
      rw [d2] at ho
      rw [ho, if_neg (by simp)] at hs
      have Hs2 := Lib.hid hs
      clear hs ho hA hB et
      go_wp2_with fail
      refine (C1.out _ _ hE).mono ?_
      rintro e w' ⟨rfl, rfl⟩
      go_wp2_with fail
      refine (C2.out _ _ hE).mono ?_
      rintro e w' ⟨rfl, rfl⟩
      go_wp2_with fail
      go_roundw
      case rel => exact ⟨k + 1, by omega, by congr 1 <;> omega, hE, by rw [Hs2.out]; exact H⟩
      case measure => simp [intOf]; omega
    · obtain rfl : k = 2001 := by omega
      have hlt2 : ¬ ((2001 : Nat) : Int) - 1000 ≤ 1000 := by omega
      rw [← H1.out] at H
      have Hf := Lib.hid (show RetRow LL w (.returned u5) wr from ⟨u5, rfl, H.out, hE⟩)
      clear H
      go_wp2_with fail
      go_ret
      exact Hf.out
set_option maxHeartbeats 16000000 in
set_option maxRecDepth 20000 in
theorem f40_c (a1 a2 a3 : Option Addr) (n c n2 c2 n3 c3 : Nat) (a b : List Atom) (M : List Move) (w : World) (hl : Atoms w a1 a) (hn : a.length = n) (hlen : n ≤ 1000000) (hm : Atoms w a2 b) (hn2 : b.length = n2) (hlen2 : n2 ≤ 1000000) (hq : Moves w a3 M) (hn3 : M.length = n3) (hlen3 : n3 ≤ 1000000) :
    Calls Try.prog 40 #[.slice a1 n c, .slice a2 n2 c2, .slice a3 n3 c3] w fun e w' => e = .returned (.int .i64 (chkErr a b M)) ∧ Ext w w' := by
  have C1 := f69_c a1 a2 n c n2 c2 a b w hl hn (by omega) hm hn2 (by omega)
  have C2 := Lib.hid (fun W (h : Ext w W) => f88_c a3 n3 c3 M W (hq.ext h) hn3 (by omega))
  by_cases h1 : bothErr a b = 0
  case neg =>
    have hb : (bothErr a b != 0) = true := by simp [h1]
    have C1 := Lib.hid C1
    rw [chk_first h1]
    clear h1
    generalize bothErr a b = E at *
    go_enter Try.func40, Try.ntmps40
    go_wp2_with fail
    refine C1.out.mono ?_
    rintro e w1 ⟨rfl, hE1⟩
    go_wp2_with fail
    go_ret
    exact ⟨rfl, hE1⟩
  by_cases h2 : movesErr M = 0
  case neg =>
    have hb : (movesErr M != 0) = true := by simp [h2]
    rw [chk_second h1 h2]
    rw [h1] at C1
    have C1 := Lib.hid C1
    clear h1 h2
    generalize movesErr M = E at *
    go_enter Try.func40, Try.ntmps40
    go_wp2_with fail
    refine C1.out.mono ?_
    rintro e w1 ⟨rfl, hE1⟩
    go_wp2_with fail
    refine (C2.out _ hE1).mono ?_
    rintro e w2 ⟨rfl, hX2⟩
    have hE2 := hE1.trans' hX2
    go_wp2_with fail
    go_ret
    exact ⟨rfl, hE2⟩
  obtain ⟨v1, v2⟩ := bothErr_ok h1
  obtain ⟨m1, m2⟩ := movesErr_ok h2
  have C3 := Lib.hid (fun W (h : Ext w W) => f82_c a1 n c a W (hl.ext h) hn (fine_load v1))
  have C4 := Lib.hid (fun W (h : Ext w W) => f82_c a2 n2 c2 b W (hm.ext h) hn2 (fine_load v2))
  have hu := len_units v1 v2
  by_cases h3 : totalL a = totalL b
  case neg =>
    rw [decide_eq_true h3] at hu
    rw [chk_total h1 h2 h3]
    rw [h1] at C1
    rw [h2] at C2
    have C1 := Lib.hid C1
    clear h1 h2 h3 v1 v2 m1 m2 hn hn2 hn3
    generalize unitsL a = U1 at *
    generalize unitsL b = U2 at *
    go_enter Try.func40, Try.ntmps40
    go_wp2_with fail
    refine C1.out.mono ?_
    rintro e w1 ⟨rfl, hE1⟩
    go_wp2_with fail
    refine (C2.out _ hE1).mono ?_
    rintro e w2 ⟨rfl, hX2⟩
    have hE2 := hE1.trans' hX2
    go_wp2_with fail
    refine (C3.out _ hE2).mono ?_
    rintro e w3 ⟨aU, cU, rfl, -, hX3⟩
    have hE3 := hE2.trans' hX3
    go_wp2_with fail
    refine (C4.out _ hE3).mono ?_
    rintro e w4 ⟨aV, cV, rfl, -, hX4⟩
    have hE4 := hE3.trans' hX4
    go_wp2_with fail
    go_ret
    exact ⟨rfl, hE4⟩
  rw [decide_eq_false (by simpa using h3)] at hu
  have hp : linePair a b = 0 := by unfold linePair; rw [if_neg (by simpa using h1), if_neg (by simpa using h3)]
  have F0 : balB a b M = true → chkErr a b M = 0 := fun h => by rw [chk_fourth h2 hp, h]; rfl
  have F7 : balB a b M = false → chkErr a b M = 7 := fun h => by rw [chk_fourth h2 hp, h]; rfl
  have G0 := Lib.hid (fun h => F0 (bal_list (a := a) (b := b) (M := M) v1 v2 h))
  have G7 := Lib.hid (fun x h => F7 (bal_no v1 v2 m2 (x := x) h))
  have C5 := Lib.hid (fun W (h : Ext w W) => f70_own a1 a2 n c n2 c2 a b W (hl.ext h) hn hlen (hm.ext h) hn2 hlen2)
  have C6 := Lib.hid (fun p W (h : Ext w W) => f77_c a1 n c a p W (hl.ext h) hn (by omega))
  have C7 := Lib.hid (fun p W (h : Ext w W) => f77_c a2 n2 c2 b p W (hm.ext h) hn2 (by omega))
  have Hlv := Lib.hid (fun p k hk => leave_bd m2 p k hk)
  have HM := Lib.hid (fun k (hk : k < M.length) => allMoves_at m2 hk)
  have Hls := Lib.hid (fun k hk p => leave_succ M k hk p)
  have Hcs := Lib.hid (fun k hk p => come_succ M k hk p)
  have Hl0 : Hid (∀ p, leaveTo M p 0 = 0 ∧ comeTo M p 0 = 0) := Lib.hid fun p => by simp [leaveTo, comeTo, sumR]
  have Het := Lib.hid (fun k (hk : k < M.length) => ends_take hk (placesL2 a b))
  have Hel := Lib.hid (ends_len)
  have Hba : Hid (∀ p, leaveTo M p M.length = massAt a p → comeTo M p M.length = massAt b p → balAt a b M p = true) := Lib.hid fun p e1 e2 => by unfold balAt; rw [e1, e2]; simp
  have hL12 := places_len v1 v2
  have h6a := (listErr_ok v1).1
  have h6b := (listErr_ok v2).1
  have HQ := Lib.hid hq
  rw [h1] at C1
  rw [h2] at C2
  have C1 := Lib.hid C1
  have hL : (placesL2 a b).length ≤ 12 := by omega
  obtain ⟨i0, hi0⟩ := info_parts infoI
  have Hi := Lib.hid hi0
  subst hn3
  clear hn hn2 h1 h2 h3 v1 v2 F0 F7 hq m2 hp hi0 hL12 h6a h6b
  generalize chkErr a b M = E at *
  generalize placesL2 a b = L at *
  generalize balAt a b M = BA at *
  generalize leaveTo M = LV at *
  generalize comeTo M = CM at *
  generalize massAt a = MA at *
  generalize massAt b = MB at *
  generalize unitsL a = U1 at *
  generalize unitsL b = U2 at *
  go_enter Try.func40, Try.ntmps40
  go_wp2_with fail
  refine C1.out.mono ?_
  rintro e w1 ⟨rfl, hE1⟩
  go_wp2_with fail
  refine (C2.out _ hE1).mono ?_
  rintro e w2 ⟨rfl, hX2⟩
  have hE2 := hE1.trans' hX2
  go_wp2_with fail
  refine (C3.out _ hE2).mono ?_
  rintro e w3 ⟨aU, cU, rfl, -, hX3⟩
  have hE3 := hE2.trans' hX3
  go_wp2_with fail
  refine (C4.out _ hE3).mono ?_
  rintro e w4 ⟨aV, cV, rfl, -, hX4⟩
  have hE4 := hE3.trans' hX4
  go_wp2_with fail
  refine (C5.out _ hE4).mono ?_
  rintro e w5 ⟨v0, rfl, hv0, hX5⟩
  have hE5 := hE4.trans' hX5
  have Hv0 := Lib.hid hv0
  have hb5 := hE4.size
  clear hv0 hX2 hX3 hX4 C1 C2 C3 C4 C5 hu
  go_wp2_with fail
  go_loopw [8, 9] (fun v i wr => ∃ k : Nat, k ≤ M.length ∧ i = .int .i64 k ∧ Ext w4 wr ∧ Hid (wr.ownsRow w4.heap.size 3 1 v (L.length + 2 * k) ((L ++ endsM (M.take k)).map (.int .i64)))) (fun _ i _ => M.length - (intOf i).toNat)
  case atStart => exact ⟨0, Nat.zero_le _, rfl, hX5, Lib.hid (by simpa [endsM] using Hv0.out)⟩
  case round =>
    obtain ⟨k, hk, rfl, hX4r, H⟩ := hrel
    have hE := hE4.trans' hX4r
    by_cases hlt : k < M.length
    · obtain ⟨bl, off, rfl, hbl, hx, hy, hz⟩ := HQ.out.ext hE k hlt
      have Hs := Lib.hid (Het.out k hlt)
      generalize M[k].fr = fr at *
      generalize M[k].to = tt at *
      clear hz
      go_wp2_with fail
      refine wp_region_ext_tail1 11 (by kernel_rfl) (by kernel_rfl) (by rfl) (by rfl) (fun _ _ _ h => h) ?_
      simp only [List.take_succ_cons, List.take_zero, List.drop_succ_cons, List.drop_zero]
      go_simp
      repeat (go_big_quiet_step (fail))
      refine wpQuiet_nil ?_
      intro w6 hX6
      have H6 := Lib.hid (row_ext H.out hX6)
      have hE6 := hX4r.trans' hX6
      have hsz := hE6.size
      have Hn := Lib.hid (reads_ints (ints_new2 w6 fr tt 3 w6.heap.size rfl))
      go_wp2_with (at_builtin; refine wpList_append_any _ rfl (.tmp 41) (.tmp 52) 31 rfl w4.heap.size 3 i0 (.int .i64 0) 1 8 Try.underlying31 Hi.out.1 Hi.out.2.1 Hi.out.2.2.1 Hi.out.2.2.2 rfl (by omega) _ (L.length + 2 * k) _ rfl (H6.out.alloc _) _ (some ⟨w6.heap.size, 0, none⟩) 2 2 ([fr, tt].map (.int .i64)) rfl Hn.out (by simp [Value.oneCell']) (by unfold maxLen; omega) (by omega) (by simp; omega) ?_; intro v' w7 hown hgrow hat; have hE7 := ext_append hE6 H6.out (Nat.le_refl _) hgrow; rw [← List.map_append, ← Hs.out] at hown; have H7 := Lib.hid hown; clear hat hgrow hown)
      go_roundw
      case rel => exact ⟨k + 1, by omega, by go_num, hE7, H7⟩
      case measure => simp [intOf]; omega
    · obtain rfl : k = M.length := by omega
      have H2 := H.out
      rw [List.take_length] at H2
      obtain ⟨ad, cp, e, hI⟩ := ints_of_row (show wr.ownsRow w4.heap.size 3 1 _ (L ++ endsM M).length ((L ++ endsM M).map (.int .i64)) by rw [List.length_append, Hel.out]; exact H2)
      subst e
      have hN : (L ++ endsM M).length ≤ 36 := by rw [List.length_append, Hel.out]; omega
      have HI := Lib.hid hI
      clear hI H H2 Het Hel Hv0
      generalize L ++ endsM M = P at *
      go_wp2_with fail
      go_loopw [10] (fun i wo => ∃ j : Nat, j ≤ P.length ∧ i = .int .i64 j ∧ Ext wr wo ∧ Hid (∀ q, (hq : q < P.length) → q < j → BA P[q] = true)) (fun i _ => P.length - (intOf i).toNat)
      case atStart => exact ⟨0, Nat.zero_le _, rfl, Below.refl _ _, fun q _ hq => by omega⟩
      case round =>
        obtain ⟨j, hj, rfl, hX, Z⟩ := hrel
        generalize wr = wo at *
        by_cases hlt : j < P.length
        · obtain ⟨bp, op, rfl, hbp0, hcp0⟩ := HI.out j hlt
          obtain ⟨p, hp⟩ : ∃ p, P[j] = p := ⟨_, rfl⟩
          rw [List.getElem?_eq_getElem hlt, Option.getD_some, hp] at hcp0
          have Zs : Hid (BA p = true → ∀ q, (hq : q < P.length) → q < j + 1 → BA P[q] = true) := Lib.hid fun h q hq h2 => by
            by_cases e : q = j
            · subst e; rw [hp]; exact h
            · exact Z.out q hq (by omega)
          clear hp
          have Hb := Lib.hid (Hba.out p)
          have G7p := Lib.hid (G7.out p)
          have D6 := Lib.hid (fun W h => C6.out p W h)
          have D7 := Lib.hid (fun W h => C7.out p W h)
          have L0 := Hl0.out p
          have Ls := Lib.hid (fun k hk => Hls.out k hk p)
          have Cs := Lib.hid (fun k hk => Hcs.out k hk p)
          have Lb := Lib.hid (fun k hk => Hlv.out p k hk)
          generalize LV p = lv at *
          generalize CM p = cm at *
          generalize MA p = ma at *
          generalize MB p = mb at *
          generalize BA p = ba at *
          obtain ⟨L01, L02⟩ := L0
          have hEo := hE.trans' hX
          go_wp2_with fail
          go_loopw [11, 12, 13] (fun x y i wi => ∃ q : Nat, q ≤ M.length ∧ x = .int .i64 (lv q) ∧ y = .int .i64 (cm q) ∧ i = .int .i64 q ∧ Ext wo wi) (fun _ _ i _ => M.length - (intOf i).toNat)
          case atStart => exact ⟨0, Nat.zero_le _, by rw [L01], by rw [L02], rfl, Below.refl _ _⟩
          case round =>
            obtain ⟨q, hq, rfl, rfl, rfl, hXi⟩ := hrel
            generalize wr = wi at *
            by_cases hlt : q < M.length
            · obtain ⟨bl, off, rfl, hbl, hx, hy, hz⟩ := HQ.out.ext (hEo.trans' hXi) q hlt
              have hF := (HM.out q hlt).2.2
              have q1 := Lb.out q hq
              have s1 := Ls.out q hlt
              have s2 := Cs.out q hlt
              have hcp := ((hX.trans' hXi).cell' hbp0).trans hcp0
              have hbp := Nat.lt_of_lt_of_le hbp0 (hX.trans' hXi).size
              generalize M[q].fr = fr at *
              generalize M[q].to = tt at *
              generalize M[q].m = mm at *
              have w1 : IntKind.i64.wrap (lv q + mm) = lv q + mm := IntWalk.i64_in _ (by omega)
              have w2 : IntKind.i64.wrap (cm q + mm) = cm q + mm := IntWalk.i64_in _ (by omega)
              clear q1 hF
              by_cases h1 : fr = p
              · by_cases h2 : tt = p
                · have d1 : (fr == p) = true := by simpa using h1
                  have d2 : (tt == p) = true := by simpa using h2
                  rw [if_pos h1] at s1
                  rw [if_pos h2] at s2
                  have S1 := Lib.hid s1
                  have S2 := Lib.hid s2
                  clear s1 s2 h1 h2
                  go_wp2_with fail
                  refine wp_region_ext (by kernel_rfl) (by kernel_rfl) ?_
                  repeat (go_big_quiet_step (fail))
                  refine wpQuiet_nil ?_
                  intro w8 hX8
                  have hX9 := hXi.trans' hX8
                  have hbl8 := Nat.lt_of_lt_of_le hbl hX8.size
                  have hbp8 := Nat.lt_of_lt_of_le hbp hX8.size
                  have hx8 := (hX8.cell' hbl).trans hx
                  have hy8 := (hX8.cell' hbl).trans hy
                  have hz8 := (hX8.cell' hbl).trans hz
                  have hcp8 := (hX8.cell' hbp).trans hcp
                  go_wp2_with fail
                  refine wp_region_ext (by kernel_rfl) (by kernel_rfl) ?_
                  repeat (go_big_quiet_step (fail))
                  refine wpQuiet_nil ?_
                  intro w10 hX10
                  have hX11 := hX9.trans' hX10
                  have hz10 := (hX10.cell' hbl8).trans hz8
                  go_wp2_with fail
                  go_roundw
                  case rel => exact ⟨q + 1, by omega, by rw [S1.out], by rw [S2.out], by go_num, hX11⟩
                  case measure => simp [intOf]; omega
                · have d1 : (fr == p) = true := by simpa using h1
                  have d2 : (tt == p) = false := by simpa using h2
                  rw [if_pos h1] at s1
                  rw [if_neg h2] at s2
                  have S1 := Lib.hid s1
                  have S2 := Lib.hid s2
                  clear s1 s2 h1 h2
                  go_wp2_with fail
                  refine wp_region_ext (by kernel_rfl) (by kernel_rfl) ?_
                  repeat (go_big_quiet_step (fail))
                  refine wpQuiet_nil ?_
                  intro w8 hX8
                  have hX9 := hXi.trans' hX8
                  have hbl8 := Nat.lt_of_lt_of_le hbl hX8.size
                  have hbp8 := Nat.lt_of_lt_of_le hbp hX8.size
                  have hx8 := (hX8.cell' hbl).trans hx
                  have hy8 := (hX8.cell' hbl).trans hy
                  have hz8 := (hX8.cell' hbl).trans hz
                  have hcp8 := (hX8.cell' hbp).trans hcp
                  go_wp2_with fail
                  refine wp_region_ext (by kernel_rfl) (by kernel_rfl) ?_
                  repeat (go_big_quiet_step (fail))
                  refine wpQuiet_nil ?_
                  intro w10 hX10
                  have hX11 := hX9.trans' hX10
                  have hz10 := (hX10.cell' hbl8).trans hz8
                  go_wp2_with fail
                  go_roundw
                  case rel => exact ⟨q + 1, by omega, by rw [S1.out], by rw [S2.out]; simp, by go_num, hX11⟩
                  case measure => simp [intOf]; omega
              · by_cases h2 : tt = p
                · have d1 : (fr == p) = false := by simpa using h1
                  have d2 : (tt == p) = true := by simpa using h2
                  rw [if_neg h1] at s1
                  rw [if_pos h2] at s2
                  have S1 := Lib.hid s1
                  have S2 := Lib.hid s2
                  clear s1 s2 h1 h2
                  go_wp2_with fail
                  refine wp_region_ext (by kernel_rfl) (by kernel_rfl) ?_
                  repeat (go_big_quiet_step (fail))
                  refine wpQuiet_nil ?_
                  intro w8 hX8
                  have hX9 := hXi.trans' hX8
                  have hbl8 := Nat.lt_of_lt_of_le hbl hX8.size
                  have hbp8 := Nat.lt_of_lt_of_le hbp hX8.size
                  have hx8 := (hX8.cell' hbl).trans hx
                  have hy8 := (hX8.cell' hbl).trans hy
                  have hz8 := (hX8.cell' hbl).trans hz
                  have hcp8 := (hX8.cell' hbp).trans hcp
                  go_wp2_with fail
                  refine wp_region_ext (by kernel_rfl) (by kernel_rfl) ?_
                  repeat (go_big_quiet_step (fail))
                  refine wpQuiet_nil ?_
                  intro w10 hX10
                  have hX11 := hX9.trans' hX10
                  have hz10 := (hX10.cell' hbl8).trans hz8
                  go_wp2_with fail
                  go_roundw
                  case rel => exact ⟨q + 1, by omega, by rw [S1.out]; simp, by rw [S2.out], by go_num, hX11⟩
                  case measure => simp [intOf]; omega
                · have d1 : (fr == p) = false := by simpa using h1
                  have d2 : (tt == p) = false := by simpa using h2
                  rw [if_neg h1] at s1
                  rw [if_neg h2] at s2
                  have S1 := Lib.hid s1
                  have S2 := Lib.hid s2
                  clear s1 s2 h1 h2
                  go_wp2_with fail
                  refine wp_region_ext (by kernel_rfl) (by kernel_rfl) ?_
                  repeat (go_big_quiet_step (fail))
                  refine wpQuiet_nil ?_
                  intro w8 hX8
                  have hX9 := hXi.trans' hX8
                  have hbl8 := Nat.lt_of_lt_of_le hbl hX8.size
                  have hbp8 := Nat.lt_of_lt_of_le hbp hX8.size
                  have hx8 := (hX8.cell' hbl).trans hx
                  have hy8 := (hX8.cell' hbl).trans hy
                  have hz8 := (hX8.cell' hbl).trans hz
                  have hcp8 := (hX8.cell' hbp).trans hcp
                  go_wp2_with fail
                  refine wp_region_ext (by kernel_rfl) (by kernel_rfl) ?_
                  repeat (go_big_quiet_step (fail))
                  refine wpQuiet_nil ?_
                  intro w10 hX10
                  have hX11 := hX9.trans' hX10
                  have hz10 := (hX10.cell' hbl8).trans hz8
                  go_wp2_with fail
                  go_roundw
                  case rel => exact ⟨q + 1, by omega, by rw [S1.out]; simp, by rw [S2.out]; simp, by go_num, hX11⟩
                  case measure => simp [intOf]; omega
            · obtain rfl : q = M.length := by omega
              have hEi := hEo.trans' hXi
              have hXo := hX.trans' hXi
              have hcp := (hXo.cell' hbp0).trans hcp0
              have hbp := Nat.lt_of_lt_of_le hbp0 hXo.size
              have D6 := Lib.hid (fun W (h : Ext wi W) => D6.out W (hEi.trans' h))
              have D7 := Lib.hid (fun W (h : Ext wi W) => D7.out W (hEi.trans' h))
              generalize lv M.length = x1 at *
              generalize cm M.length = x2 at *
              by_cases g1 : x1 = ma
              case neg =>
                have d1 : (x1 != ma) = true := by simpa using g1
                have e7 := G7p.out (.inl (by omega))
                subst e7
                clear g1
                go_wp2_with fail
                refine (D6.out _ (Below.refl _ _)).mono ?_
                rintro e w' ⟨rfl, rfl⟩
                go_wp2_with fail
                go_ret
                exact ⟨rfl, hEi⟩
              have d1 : (x1 != ma) = false := by simpa using g1
              by_cases g2 : x2 = mb
              case neg =>
                have d2 : (x2 != mb) = true := by simpa using g2
                have e7 := G7p.out (.inr (by omega))
                subst e7
                clear g1 g2
                go_wp2_with fail
                refine (D6.out _ (Below.refl _ _)).mono ?_
                rintro e w' ⟨rfl, rfl⟩
                go_wp2_with fail
                refine (D7.out _ (Below.refl _ _)).mono ?_
                rintro e w' ⟨rfl, rfl⟩
                go_wp2_with fail
                go_ret
                exact ⟨rfl, hEi⟩
              have d2 : (x2 != mb) = false := by simpa using g2
              have Zf := Lib.hid (Zs.out (Hb.out g1 g2))
              clear g1 g2
              go_wp2_with fail
              refine (D6.out _ (Below.refl _ _)).mono ?_
              rintro e w' ⟨rfl, rfl⟩
              go_wp2_with fail
              refine (D7.out _ (Below.refl _ _)).mono ?_
              rintro e w' ⟨rfl, rfl⟩
              go_wp2_with fail
              go_roundw
              case rel => exact ⟨j + 1, by omega, by go_num, hXo, Zf⟩
              case measure => simp [intOf]; omega
        · obtain rfl : j = P.length := by omega
          have e0 := G0.out (fun p hp => by obtain ⟨q, hq, rfl⟩ := List.getElem_of_mem hp; exact Z.out q hq hq)
          subst e0
          have hf := Lib.hid (hE.trans' hX)
          go_wp2_with fail
          go_ret
          exact ⟨rfl, hf.out⟩
end Go.Proofs.Ytfhgnmijigdlmaa
