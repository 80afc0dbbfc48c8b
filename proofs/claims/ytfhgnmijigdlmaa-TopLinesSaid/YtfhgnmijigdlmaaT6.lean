/- Contracts of the line's reference. -/
import Derived.Test.YtfhgnmijigdlmaaT5
namespace Go.Proofs.Ytfhgnmijigdlmaa
open Go.RowKit
attribute [local go_sem] GW.cell

theorem f75_c (n lo hi : Int) (w : World) :
    Calls Try.prog 75 #[.int .i64 n, .int .i64 lo, .int .i64 hi] w fun e w' => e = .returned (.bool (withinB n lo hi)) ∧ w = w' := by
  go_enter Try.func75, Try.ntmps75
  go_wp2
  all_goals (go_ret; exact ⟨ret_bool (by simp [withinB]; try omega), rfl⟩)
theorem f92_c (n : Int) (w : World) : Calls Try.prog 92 #[.int .i64 n] w fun e w' => e = .returned (.bool (withinB n (-1000) 1000)) ∧ w = w' := by
  go_enter Try.func92, Try.ntmps92
  go_wp2_with fail
  refine (f75_c _ _ _ _).mono ?_
  rintro e w' ⟨rfl, rfl⟩
  go_wp2_with fail
  go_ret
  exact ⟨rfl, rfl⟩
theorem f76_s (x y k : Int) (w : World) (hx : -60000 ≤ x ∧ x ≤ 60000) (hy : -60000 ≤ y ∧ y ≤ 60000) (hk : k = 1 ∨ k = 2) :
    Calls Try.prog 76 #[.int .i64 y, .int .i64 x, .int .i64 k] w fun e w' => e = .returned (.int .i64 (priceV x y k)) ∧ w = w' := by
  have hp := priceV_bd hx hy 2
  have hq : priceV x y 2 = (y - x) * (y - x) := by
    unfold priceV distI; rw [if_pos rfl]; split
    · rfl
    · exact sq_opp x y
  have hp2 : 0 ≤ (x - y) * (x - y) ∧ (x - y) * (x - y) ≤ 14400000000 := by rw [sq_opp, ← hq]; exact hp
  rw [hq] at hp
  have Hv : Hid (priceV x y k = if k = 2 then (y - x) * (y - x) else if x ≤ y then y - x else x - y) := Lib.hid (by
    by_cases h2 : k = 2
    · rw [if_pos h2, h2, hq]
    · unfold priceV distI; rw [if_neg h2, if_neg h2])
  clear hq
  rcases hk with rfl | rfl
  all_goals
    rcases Int.lt_trichotomy x y with hxy | hxy | hxy
    · have e1 : x - y < y - x := by omega
      have e2 : ¬ y - x < x - y := by omega
      have d1 : decide (x - y < y - x) = true := by simp; omega
      have d2 : decide (y - x < x - y) = false := by simp; omega
      have m1 : max (y - x) (x - y) = y - x := by omega
      go_enter Try.func76, Try.ntmps76
      go_wp2
      go_ret
      exact ⟨ret_int (by rw [Hv.out]; simp; try omega), rfl⟩
    · subst hxy
      go_enter Try.func76, Try.ntmps76
      go_wp2
      go_ret
      exact ⟨ret_int (by rw [Hv.out]; simp; try rfl), rfl⟩
    · have e1 : ¬ x - y < y - x := by omega
      have e2 : y - x < x - y := by omega
      have e3 : ¬ x ≤ y := by omega
      have d1 : decide (x - y < y - x) = false := by simp; omega
      have d2 : decide (y - x < x - y) = true := by simp; omega
      have m1 : max (y - x) (x - y) = x - y := by omega
      go_enter Try.func76, Try.ntmps76
      go_wp2
      go_ret
      exact ⟨ret_int (by rw [Hv.out]; simp [sq_opp x y]; try omega), rfl⟩
theorem f76_c (x y k : Int) (w : World) (hx : -60000 ≤ x ∧ x ≤ 60000) (hy : -60000 ≤ y ∧ y ≤ 60000) (hk : k = 1 ∨ k = 2) :
    Calls Try.prog 76 #[.int .i64 x, .int .i64 y, .int .i64 k] w fun e w' => e = .returned (.int .i64 (priceV x y k)) ∧ w = w' := by
  rw [priceV_symm]; exact f76_s y x k w hy hx hk
theorem info3 : (Try.prog.info? 3).map (fun i => (i.zero, i.size, i.bytes)) = some (some (.int .i64 0), 1, 8) := by kernel_rfl
set_option maxRecDepth 20000 in
set_option maxHeartbeats 2000000 in
theorem f82_c (a : Option Addr) (n c : Nat) (l : List Atom) (w : World) (hl : Atoms w a l) (hn : l.length = n) (hF : Fine l) :
    Calls Try.prog 82 #[.slice a n c] w (RetI (unitsL l) w) := by
  subst hn
  have h40 := hF.1
  have Hlen := Lib.hid (fun k (hk : k < l.length) q (hq : q ≤ l[k].m.toNat) => un_len hF hk hq)
  have HF := Lib.hid hF
  clear hF
  obtain ⟨i0, hi0⟩ := info_parts info3
  have Hi := Lib.hid hi0
  clear hi0
  go_enter Try.func82, Try.ntmps82
  go_wp2_with fail
  go_loopw [3, 4, 5] (fun v i _ wr => ∃ k : Nat, k ≤ l.length ∧ i = .int .i64 k ∧ Ext w wr ∧ Hid (wr.ownsRow w.heap.size 3 1 v (un l k 0).length ((un l k 0).map (.int .i64)))) (fun _ i _ _ => l.length - (intOf i).toNat)
  case atStart => exact ⟨0, Nat.zero_le _, rfl, Below.refl _ _, by rw [un_zero]; exact World.ownsRow_nil _ _ _ _⟩
  case round =>
    obtain ⟨wo, rfl⟩ : ∃ wo : World, wo = wr := ⟨_, rfl⟩
    obtain ⟨k, hk, rfl, hE, H⟩ := hrel
    by_cases hlt : k < l.length
    · have hm := HF.out.2 k hlt
      go_wp2_with fail
      go_loopw [3, 5] (fun v i wr => ∃ q : Nat, q ≤ l[k].m.toNat ∧ i = .int .i64 q ∧ Ext w wr ∧ Hid (wr.ownsRow w.heap.size 3 1 v (un l k q).length ((un l k q).map (.int .i64)))) (fun _ i _ => l[k].m.toNat - (intOf i).toNat)
      case atStart => exact ⟨0, Nat.zero_le _, rfl, hE, H⟩
      case round =>
        obtain ⟨q, hq, rfl, hE3, H3⟩ := hrel
        obtain ⟨b, off, rfl, hb, hx, hy⟩ := hl.ext hE3 k hlt
        by_cases hlq : q < l[k].m.toNat
        · have hlt2 : (q : Int) < l[k].m := by omega
          have hbd := Hlen.out k hlt q hq
          have Hn := Lib.hid (reads_ints (ints_new1 wr l[k].p 3 wr.heap.size rfl))
          have Hs := Lib.hid (un_succ hlt q)
          have hszx := hE3.size
          go_wp2_with (at_builtin; refine wpList_append_any _ rfl (.tmp 21) (.tmp 27) 31 rfl w.heap.size 3 i0 (.int .i64 0) 1 8 Try.underlying31 Hi.out.1 Hi.out.2.1 Hi.out.2.2.1 Hi.out.2.2.2 rfl (by omega) _ (un l k q).length _ rfl (Lib.hid (World.ownsRow.alloc H3.out _)).out _ (some ⟨wr.heap.size, 0, none⟩) 1 1 [.int .i64 l[k].p] rfl Hn.out (by simp [Value.oneCell']) (by unfold maxLen; omega) (by omega) (by simp; omega) ?_; intro v' w4 hown hgrow hat; have hE4 := ext_append hE3 H3.out (Nat.le_refl _) hgrow; have H4 : Hid (w4.ownsRow w.heap.size 3 1 v' (un l k (q + 1)).length ((un l k (q + 1)).map (.int .i64))) := (by rw [Hs.out, List.length_append, List.map_append]; exact hown); clear hat hgrow hown)
          go_roundw
          case rel => exact ⟨q + 1, by omega, by go_num, hE4, H4⟩
          case measure => simp [intOf]; omega
        · obtain rfl : q = l[k].m.toNat := by omega
          have hge : ¬ ((l[k].m.toNat : Nat) : Int) < l[k].m := by omega
          have Hs := Lib.hid (un_next hlt)
          go_wp2_with fail
          go_roundw
          case rel => exact ⟨k + 1, by omega, by go_num, hE3, by rw [← Hs.out]; exact H3⟩
          case measure => simp [intOf]; omega
    · obtain rfl : k = l.length := by omega
      obtain ⟨ad, cp, rfl, hI⟩ := ints_of_row H.out
      clear H
      go_wp2_with fail
      go_ret
      rw [un_end] at hI ⊢
      exact ⟨ad, cp, rfl, hI, hE⟩
set_option maxHeartbeats 4000000 in
theorem f48_c (a : Option Addr) (n c : Nat) (l : List Atom) (w : World) (hl : Atoms w a l) (hn : l.length = n) (hlen : n ≤ 140737488355328) :
    Calls Try.prog 48 #[.slice a n c] w fun e w' => e = .returned (.int .i64 (valLoad l)) ∧ Ext w w' := by
  subst hn
  by_cases h40 : 6 < l.length
  · have hd : decide (6 < (l.length : Int)) = true := by simp; omega
    go_enter Try.func48, Try.ntmps48
    go_wp2_with fail
    go_ret
    exact ⟨ret_int (by unfold valLoad listErr; rw [if_pos h40]), Below.refl _ _⟩
  · have hd : decide (6 < (l.length : Int)) = false := by simp; omega
    go_enter Try.func48, Try.ntmps48
    go_wp2_with fail
    go_loopw [3] (fun i wr => ∃ k : Nat, k ≤ l.length ∧ i = .int .i64 k ∧ Ext w wr ∧ Hid (∀ j, j < k → goodAt 1000 30 l j = true)) (fun i _ => l.length - (intOf i).toNat)
    case atStart => exact ⟨0, Nat.zero_le _, rfl, Below.refl _ _, fun j hj => by omega⟩
    case round =>
      obtain ⟨k, hk, rfl, hE, H⟩ := hrel
      by_cases hlt : k < l.length
      · obtain ⟨b, off, rfl, hb, hx, hy⟩ := hl.ext hE k hlt
        rcases Bool.eq_false_or_eq_true (withinB l[k].p (-1000) 1000) with h1 | h1
        case inr =>
          have Hg := Lib.hid (goodAt_place (P := 1000) (M := 30) hlt h1)
          go_wp2_with fail
          refine wp_region_ext (by kernel_rfl) (by kernel_rfl) ?_
          repeat (go_big_quiet_step ((first | (go_at_call 92; exact quiet_same (f92_c _ _)) | (go_at_call 75; exact quiet_same (f75_c _ _ _ _)))))
          refine wpQuiet_nil ?_
          intro w1 hE1
          go_wp2_with fail
          go_ret
          exact ⟨ret_int (by unfold valLoad listErr; rw [if_neg h40, isListB_no hlt Hg.out]; rfl), hE.trans' hE1⟩
        rcases Bool.eq_false_or_eq_true (withinB l[k].m 1 30) with h2 | h2
        case inr =>
          have Hg := Lib.hid (goodAt_mass (P := 1000) (M := 30) hlt h2)
          go_wp2_with fail
          refine wp_region_ext (by kernel_rfl) (by kernel_rfl) ?_
          repeat (go_big_quiet_step ((first | (go_at_call 92; exact quiet_same (f92_c _ _)) | (go_at_call 75; exact quiet_same (f75_c _ _ _ _)))))
          refine wpQuiet_nil ?_
          intro w1 hE1
          go_wp2_with fail
          go_ret
          exact ⟨ret_int (by unfold valLoad listErr; rw [if_neg h40, isListB_no hlt Hg.out]; rfl), hE.trans' hE1⟩
        cases k with
        | zero =>
          simp only [Nat.zero_mul, Nat.add_zero] at hx hy
          have Hg := Lib.hid (goodAt_zero (P := 1000) (M := 30) hlt h1 h2)
          go_wp2_with fail
          refine wp_region_ext (by kernel_rfl) (by kernel_rfl) ?_
          repeat (go_big_quiet_step ((first | (go_at_call 92; exact quiet_same (f92_c _ _)) | (go_at_call 75; exact quiet_same (f75_c _ _ _ _)))))
          refine wpQuiet_nil ?_
          intro w1 hE1
          go_wp2_with fail
          go_roundw
          case rel =>
            refine ⟨1, by omega, by go_num, hE.trans' hE1, fun j hj => ?_⟩
            rcases Nat.lt_or_ge j (1 - 1) with e | e
            · exact H.out j (by omega)
            · obtain rfl : j = 1 - 1 := by omega
              exact Hg.out
          case measure => simp [intOf]; omega
        | succ q =>
          obtain ⟨b', off', he, hb', hx', hy'⟩ := hl.ext hE q (by omega)
          simp only [Option.some.injEq, Addr.mk.injEq] at he
          obtain ⟨rfl, rfl, -⟩ := he
          by_cases h3 : l[q + 1].p ≤ l[q].p
          · have hd : decide (l[q + 1].p ≤ l[q].p) = true := by simpa using h3
            have Hg := Lib.hid (goodAt_down (P := 1000) (M := 30) hlt h3)
            go_wp2_with fail
            refine wp_region_ext (by kernel_rfl) (by kernel_rfl) ?_
            repeat (go_big_quiet_step ((first | (go_at_call 92; exact quiet_same (f92_c _ _)) | (go_at_call 75; exact quiet_same (f75_c _ _ _ _)))))
            refine wpQuiet_nil ?_
            intro w1 hE1
            go_wp2_with fail
            go_ret
            exact ⟨ret_int (by unfold valLoad listErr; rw [if_neg h40, isListB_no hlt Hg.out]; rfl), hE.trans' hE1⟩
          · have hd : decide (l[q + 1].p ≤ l[q].p) = false := by simpa using h3
            have Hg := Lib.hid (goodAt_up (P := 1000) (M := 30) hlt h1 h2 (by omega))
            go_wp2_with fail
            refine wp_region_ext (by kernel_rfl) (by kernel_rfl) ?_
            repeat (go_big_quiet_step ((first | (go_at_call 92; exact quiet_same (f92_c _ _)) | (go_at_call 75; exact quiet_same (f75_c _ _ _ _)))))
            refine wpQuiet_nil ?_
            intro w1 hE1
            go_wp2_with fail
            go_roundw
            case rel =>
              refine ⟨q + 1 + 1, by omega, by go_num, hE.trans' hE1, fun j hj => ?_⟩
              rcases Nat.lt_or_ge j (q + 1 + 1 - 1) with e | e
              · exact H.out j (by omega)
              · obtain rfl : j = q + 1 + 1 - 1 := by omega
                exact Hg.out
            case measure => simp [intOf]; omega
      · obtain rfl : k = l.length := by omega
        go_wp2_with fail
        go_ret
        exact ⟨ret_int (by unfold valLoad listErr; rw [if_neg h40, isListB_yes H.out]; rfl), hE⟩
set_option maxHeartbeats 2000000 in
theorem f69_c (a a2 : Option Addr) (n c n2 c2 : Nat) (l m : List Atom) (w : World) (hl : Atoms w a l) (hn : l.length = n) (hlen : n ≤ 140737488355328) (hm : Atoms w a2 m) (hn2 : m.length = n2) (hlen2 : n2 ≤ 140737488355328) :
    Calls Try.prog 69 #[.slice a n c, .slice a2 n2 c2] w fun e w' => e = .returned (.int .i64 (bothErr l m)) ∧ Ext w w' := by
  subst hn hn2
  go_enter Try.func69, Try.ntmps69
  go_wp2_with fail
  refine (f48_c a l.length c l _ hl rfl hlen).mono ?_
  rintro e w1 ⟨rfl, hE1⟩
  by_cases h0 : valLoad l = 0
  case neg =>
    have hb : (valLoad l != 0) = true := by simp [h0]
    have HR : Hid (bothErr l m = valLoad l) := Lib.hid (by unfold bothErr; rw [if_pos h0])
    clear h0
    go_wp2_with fail
    go_ret
    exact ⟨ret_int HR.out.symm, hE1⟩
  have HR : Hid (bothErr l m = valLoad m) := Lib.hid (by unfold bothErr; rw [if_neg (by simpa using h0)])
  rw [h0]
  clear h0
  go_wp2_with fail
  refine (f48_c a2 m.length c2 m _ (hm.ext hE1) rfl hlen2).mono ?_
  rintro e w2 ⟨rfl, hX2⟩
  go_wp2_with fail
  go_ret
  exact ⟨ret_int HR.out.symm, hE1.trans' hX2⟩
set_option maxHeartbeats 2000000 in
theorem f74_c (a a2 : Option Addr) (n c n2 c2 : Nat) (l m : List Atom) (w : World) (hl : Atoms w a l) (hn : l.length = n) (hlen : n ≤ 140737488355328) (hm : Atoms w a2 m) (hn2 : m.length = n2) (hlen2 : n2 ≤ 140737488355328) :
    Calls Try.prog 74 #[.slice a n c, .slice a2 n2 c2] w fun e w' => e = .returned (.int .i64 (linePair l m)) ∧ Ext w w' := by
  subst hn hn2
  go_enter Try.func74, Try.ntmps74
  go_wp2_with fail
  refine (f69_c a a2 l.length c m.length c2 l m _ hl rfl hlen hm rfl hlen2).mono ?_
  rintro e w1 ⟨rfl, hE1⟩
  by_cases h0 : bothErr l m = 0
  case neg =>
    have hb : (bothErr l m != 0) = true := by simp [h0]
    have HR : Hid (linePair l m = bothErr l m) := Lib.hid (by unfold linePair; rw [if_pos h0])
    clear h0
    go_wp2_with fail
    go_ret
    exact ⟨ret_int HR.out.symm, hE1⟩
  obtain ⟨v1, v2⟩ := bothErr_ok h0
  have F1 := Lib.hid (fine_load v1)
  have F2 := Lib.hid (fine_load v2)
  have u1 := Lib.hid (units_len F1.out)
  have u2 := Lib.hid (units_len F2.out)
  have H0 := Lib.hid h0
  rw [h0]
  clear h0 v1 v2
  have C1 := Lib.hid (fun W (h : Ext w W) => f82_c a l.length c l W (hl.ext h) rfl F1.out)
  have C2 := Lib.hid (fun W (h : Ext w W) => f82_c a2 m.length c2 m W (hm.ext h) rfl F2.out)
  have HT : Hid ((unitsL l).length = (unitsL m).length ↔ totalL l = totalL m) := Lib.hid (by have := u1.out; have := u2.out; omega)
  generalize unitsL l = U at *
  generalize unitsL m = V at *
  go_wp2_with fail
  refine (C1.out _ hE1).mono ?_
  rintro e w2 ⟨b1, d1, rfl, -, hX2⟩
  have hE2 := hE1.trans' hX2
  go_wp2_with fail
  refine (C2.out _ hE2).mono ?_
  rintro e w3 ⟨b2, d2, rfl, -, hX3⟩
  have hE3 := hE2.trans' hX3
  by_cases ht : U.length = V.length
  · have hb : ((U.length : Int) != (V.length : Int)) = false := by simp; omega
    have HR : Hid (linePair l m = 0) := Lib.hid (by unfold linePair; rw [if_neg (by simpa using H0.out), if_neg (by simpa using HT.out.1 ht)])
    clear ht
    go_wp2_with fail
    go_ret
    exact ⟨ret_int HR.out.symm, hE3⟩
  · have hb : ((U.length : Int) != (V.length : Int)) = true := by simp; omega
    have HR : Hid (linePair l m = 5) := Lib.hid (by unfold linePair; rw [if_neg (by simpa using H0.out), if_pos (fun h => ht (HT.out.2 h))])
    clear ht
    go_wp2_with fail
    go_ret
    exact ⟨ret_int HR.out.symm, hE3⟩
theorem massAt_drop {l : List Atom} {p : Int} {k : Nat} (hk : k < l.length) (h : massAt l p = massAt (l.drop k) p) : massAt l p = if l[k].p = p then l[k].m else massAt (l.drop (k + 1)) p := by
  rw [h, List.drop_eq_getElem_cons hk, massAt_cons]
set_option maxHeartbeats 2000000 in
theorem f77_c (a : Option Addr) (n c : Nat) (l : List Atom) (p : Int) (w : World) (hl : Atoms w a l) (hn : l.length = n) (hlen : n ≤ 1000000) :
    Calls Try.prog 77 #[.slice a n c, .int .i64 p] w fun e w' => e = .returned (.int .i64 (massAt l p)) ∧ w = w' := by
  subst hn
  go_enter Try.func77, Try.ntmps77
  go_wp2_with fail
  go_loop [5] (fun i => ∃ k : Nat, k ≤ l.length ∧ i = .int .i64 k ∧ Hid (massAt l p = massAt (l.drop k) p)) (fun i => l.length - (intOf i).toNat)
  case atStart => exact ⟨0, Nat.zero_le _, rfl, by simp [Hid]⟩
  case round =>
    obtain ⟨k, hk, rfl, H⟩ := hrel
    by_cases hlt : k < l.length
    · obtain ⟨b, off, rfl, hb, hx, hy⟩ := hl k hlt
      have hs := massAt_drop hlt H.out
      by_cases hp : l[k].p = p
      · rw [if_pos hp] at hs
        have Hs := Lib.hid hs
        have hd : (l[k].p == p) = true := by simp [hp]
        clear hp hs
        generalize l[k].p = pp at *
        generalize l[k].m = mm at *
        go_wp2_with fail
        go_ret
        exact ⟨ret_int Hs.out.symm, rfl⟩
      · rw [if_neg hp] at hs
        have Hs := Lib.hid hs
        have hd : (l[k].p == p) = false := by simp [hp]
        clear hp hs
        generalize l[k].p = pp at *
        generalize l[k].m = mm at *
        go_wp2_with fail
        go_round
        case rel => exact ⟨k + 1, by omega, by go_num, Hs⟩
        case measure => simp [intOf]; omega
    · obtain rfl : k = l.length := by omega
      have Hs : Hid (massAt l p = 0) := Lib.hid (by rw [H.out, List.drop_length]; rfl)
      go_wp2_with fail
      go_ret
      exact ⟨ret_int Hs.out.symm, rfl⟩
end Go.Proofs.Ytfhgnmijigdlmaa
