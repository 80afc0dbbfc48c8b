/- Contracts of layer 7: units; prices. -/
import Derived.Test.YtgnjaapjaglleaaP2
namespace Go.Proofs.Ytgnjaapjaglleaa
open Go.RowKit
attribute [local go_sem] GW.cell

theorem info3 : (Try.prog.info? 3).map (fun i => (i.zero, i.size, i.bytes)) = some (some (.int .i64 0), 1, 8) := by kernel_rfl
theorem info66 : (Try.prog.info? 66).map (fun i => (i.zero, i.size, i.bytes)) = some (some (.agg #[.int .i64 0, .int .i64 0]), 2, 16) := by kernel_rfl

set_option maxRecDepth 20000 in
set_option maxHeartbeats 2000000 in
theorem f61_c (a : Option Addr) (n c : Nat) (l : List Atom) (w : World) (hl : Atoms w a l) (hn : l.length = n) (hF : Fine l) :
    Calls Try.prog 61 #[.slice a n c] w (RetI (unitsL l) w) := by
  subst hn
  have h40 := hF.1
  have Hlen := Lib.hid (fun k (hk : k < l.length) q (hq : q ≤ l[k].m.toNat) => un_len hF hk hq)
  have HF := Lib.hid hF
  clear hF
  obtain ⟨i0, hi0⟩ := info_parts info3
  have Hi := Lib.hid hi0
  clear hi0
  go_enter Try.func61, Try.ntmps61
  go_wp2_with fail
  go_loopw [3, 8] (fun v i wr => ∃ k : Nat, k ≤ l.length ∧ i = .int .i64 k ∧ Ext w wr ∧ Hid (wr.ownsRow w.heap.size 3 1 v (un l k 0).length ((un l k 0).map (.int .i64)))) (fun _ i _ => l.length - (intOf i).toNat)
  case atStart => exact ⟨0, Nat.zero_le _, rfl, Below.refl _ _, by rw [un_zero]; exact World.ownsRow_nil _ _ _ _⟩
  case round =>
    obtain ⟨wo, rfl⟩ : ∃ wo : World, wo = wr := ⟨_, rfl⟩
    obtain ⟨k, hk, rfl, hE, H⟩ := hrel
    by_cases hlt : k < l.length
    · obtain ⟨b, off, rfl, hb, hx, hy⟩ := hl.ext hE k hlt
      have hm := HF.out.2 k hlt
      have hE2 := hE.trans' (ext_alloc wo (.cells #[.int .i64 l[k].p, .int .i64 l[k].m] 66))
      have HB := Lib.hid (BlkC.new wo #[.int .i64 l[k].p, .int .i64 l[k].m] 66)
      have Hne := Lib.hid (row_notnew H.out)
      have H2 := Lib.hid (World.ownsRow.alloc H.out (.cells #[.int .i64 l[k].p, .int .i64 l[k].m] 66))
      have hszr := hE.size
      clear H
      go_wp2_with fail
      go_loopw [3, 14] (fun v i wr => ∃ q : Nat, q ≤ l[k].m.toNat ∧ i = .int .i64 q ∧ Ext w wr ∧ wo.heap.size < wr.heap.size ∧ Hid (BlkC wr wo.heap.size #[.int .i64 l[k].p, .int .i64 l[k].m] 66) ∧ Hid (some wo.heap.size ≠ v.ownBlock) ∧ Hid (wr.ownsRow w.heap.size 3 1 v (un l k q).length ((un l k q).map (.int .i64)))) (fun _ i _ => l[k].m.toNat - (intOf i).toNat)
      case atStart => exact ⟨0, Nat.zero_le _, rfl, hE2, by simp, HB, Hne, H2⟩
      case round =>
        obtain ⟨q, hq, rfl, hE3, hsz, HB3, Hne3, H3⟩ := hrel
        by_cases hlq : q < l[k].m.toNat
        · have hlt2 : (q : Int) < l[k].m := by omega
          have hc0 := HB3.out.cellv 0 (v := .int .i64 l[k].p) rfl
          have hbd := Hlen.out k hlt q hq
          have Hn := Lib.hid (reads_ints (ints_new1 wr l[k].p 3 wr.heap.size rfl))
          have Hs := Lib.hid (un_succ hlt q)
          have hszx := hE3.size
          go_wp2_with (at_builtin; refine wpList_append_any _ rfl (.tmp 16) (.tmp 19) 30 rfl w.heap.size 3 i0 (.int .i64 0) 1 8 Try.underlying30 Hi.out.1 Hi.out.2.1 Hi.out.2.2.1 Hi.out.2.2.2 rfl (by omega) _ (un l k q).length _ rfl (Lib.hid (World.ownsRow.alloc H3.out _)).out _ (some ⟨wr.heap.size, 0, none⟩) 1 1 [.int .i64 l[k].p] rfl Hn.out (by simp [Value.oneCell']) (by unfold maxLen; omega) (by omega) (by simp; omega) ?_; intro v' w4 hown hgrow hat; have hE4 := ext_append hE3 H3.out (Nat.le_refl _) hgrow; have HB4 := Lib.hid (HB3.out.appended hgrow Hne3.out); have Hne4 := Lib.hid (far_keeps Hne3.out (by simp; omega) hat); have hsz4 := hgrow.size; have H4 : Hid (w4.ownsRow w.heap.size 3 1 v' (un l k (q + 1)).length ((un l k (q + 1)).map (.int .i64))) := (by rw [Hs.out, List.length_append, List.map_append]; exact hown); clear hat hgrow hown)
          simp only [World.size_alloc] at hsz4
          go_roundw
          case rel => exact ⟨q + 1, by omega, by go_num, hE4, by omega, HB4, Hne4, H4⟩
          case measure => simp [intOf]; omega
        · obtain rfl : q = l[k].m.toNat := by omega
          have hge : ¬ ((l[k].m.toNat : Nat) : Int) < l[k].m := by omega
          have Hs := Lib.hid (un_next hlt)
          go_wp2_with fail
          go_roundw
          case rel => exact ⟨k + 1, by omega, by go_num, hE3, by rw [← Hs.out]; exact H3⟩
          case measure => simp [intOf]; omega
    · obtain rfl : k = l.length := by omega
      obtain ⟨ad, cp, rfl, hI⟩ := ints_of_row H.out
      clear H
      go_wp2_with fail
      go_ret
      rw [un_end] at hI ⊢
      exact ⟨ad, cp, rfl, hI, hE⟩

set_option maxRecDepth 20000 in
set_option maxHeartbeats 2000000 in
theorem f63_c (a : Option Addr) (n c : Nat) (l : List Atom) (w : World) (hl : Atoms w a l) (hn : l.length = n) (hF : Fine l) :
    Calls Try.prog 63 #[.slice a n c] w (RetI (unitsL l) w) := by
  subst hn
  have h40 := hF.1
  have Hlen := Lib.hid (fun k (hk : k < l.length) q (hq : q ≤ l[k].m.toNat) => un_len hF hk hq)
  have HF := Lib.hid hF
  clear hF
  obtain ⟨i0, hi0⟩ := info_parts info3
  have Hi := Lib.hid hi0
  clear hi0
  go_enter Try.func63, Try.ntmps63
  go_wp2_with fail
  go_loopw [3, 4, 5] (fun v i _ wr => ∃ k : Nat, k ≤ l.length ∧ i = .int .i64 k ∧ Ext w wr ∧ Hid (wr.ownsRow w.heap.size 3 1 v (un l k 0).length ((un l k 0).map (.int .i64)))) (fun _ i _ _ => l.length - (intOf i).toNat)
  case atStart => exact ⟨0, Nat.zero_le _, rfl, Below.refl _ _, by rw [un_zero]; exact World.ownsRow_nil _ _ _ _⟩
  case round =>
    obtain ⟨wo, rfl⟩ : ∃ wo : World, wo = wr := ⟨_, rfl⟩
    obtain ⟨k, hk, rfl, hE, H⟩ := hrel
    by_cases hlt : k < l.length
    · have hm := HF.out.2 k hlt
      go_wp2_with fail
      go_loopw [3, 5] (fun v i wr => ∃ q : Nat, q ≤ l[k].m.toNat ∧ i = .int .i64 q ∧ Ext w wr ∧ Hid (wr.ownsRow w.heap.size 3 1 v (un l k q).length ((un l k q).map (.int .i64)))) (fun _ i _ => l[k].m.toNat - (intOf i).toNat)
      case atStart => exact ⟨0, Nat.zero_le _, rfl, hE, H⟩
      case round =>
        obtain ⟨q, hq, rfl, hE3, H3⟩ := hrel
        obtain ⟨b, off, rfl, hb, hx, hy⟩ := hl.ext hE3 k hlt
        by_cases hlq : q < l[k].m.toNat
        · have hlt2 : (q : Int) < l[k].m := by omega
          have hbd := Hlen.out k hlt q hq
          have Hn := Lib.hid (reads_ints (ints_new1 wr l[k].p 3 wr.heap.size rfl))
          have Hs := Lib.hid (un_succ hlt q)
          have hszx := hE3.size
          go_wp2_with (at_builtin; refine wpList_append_any _ rfl (.tmp 21) (.tmp 27) 30 rfl w.heap.size 3 i0 (.int .i64 0) 1 8 Try.underlying30 Hi.out.1 Hi.out.2.1 Hi.out.2.2.1 Hi.out.2.2.2 rfl (by omega) _ (un l k q).length _ rfl (Lib.hid (World.ownsRow.alloc H3.out _)).out _ (some ⟨wr.heap.size, 0, none⟩) 1 1 [.int .i64 l[k].p] rfl Hn.out (by simp [Value.oneCell']) (by unfold maxLen; omega) (by omega) (by simp; omega) ?_; intro v' w4 hown hgrow hat; have hE4 := ext_append hE3 H3.out (Nat.le_refl _) hgrow; have H4 : Hid (w4.ownsRow w.heap.size 3 1 v' (un l k (q + 1)).length ((un l k (q + 1)).map (.int .i64))) := (by rw [Hs.out, List.length_append, List.map_append]; exact hown); clear hat hgrow hown)
          go_roundw
          case rel => exact ⟨q + 1, by omega, by go_num, hE4, H4⟩
          case measure => simp [intOf]; omega
        · obtain rfl : q = l[k].m.toNat := by omega
          have hge : ¬ ((l[k].m.toNat : Nat) : Int) < l[k].m := by omega
          have Hs := Lib.hid (un_next hlt)
          go_wp2_with fail
          go_roundw
          case rel => exact ⟨k + 1, by omega, by go_num, hE3, by rw [← Hs.out]; exact H3⟩
          case measure => simp [intOf]; omega
    · obtain rfl : k = l.length := by omega
      obtain ⟨ad, cp, rfl, hI⟩ := ints_of_row H.out
      clear H
      go_wp2_with fail
      go_ret
      rw [un_end] at hI ⊢
      exact ⟨ad, cp, rfl, hI, hE⟩

theorem sq_opp (x y : Int) : (x - y) * (x - y) = (y - x) * (y - x) := by
  have e : x - y = -(y - x) := by omega
  rw [e, Int.neg_mul_neg]

theorem f100_c (x y k : Int) (w : World) (hx : -60000 ≤ x ∧ x ≤ 60000) (hy : -60000 ≤ y ∧ y ≤ 60000) (hk : k = 1 ∨ k = 2) :
    Calls Try.prog 100 #[.int .i64 x, .int .i64 y, .int .i64 k] w fun e w' => e = .returned (.int .i64 (priceV x y k)) ∧ w = w' := by
  have hp := priceV_bd hx hy 2
  have hq : priceV x y 2 = (y - x) * (y - x) := by
    unfold priceV distI; rw [if_pos rfl]; split
    · rfl
    · exact sq_opp x y
  have hp2 : 0 ≤ (x - y) * (x - y) ∧ (x - y) * (x - y) ≤ 14400000000 := by rw [sq_opp, ← hq]; exact hp
  rw [hq] at hp
  have Hv : Hid (priceV x y k = if k = 2 then (y - x) * (y - x) else if x ≤ y then y - x else x - y) := Lib.hid (by
    by_cases h2 : k = 2
    · rw [if_pos h2, h2, hq]
    · unfold priceV distI; rw [if_neg h2, if_neg h2])
  clear hq
  rcases hk with rfl | rfl
  all_goals
    rcases Int.lt_trichotomy x y with hxy | hxy | hxy
    · have e1 : x - y < y - x := by omega
      have e2 : ¬ y - x < x - y := by omega
      have d1 : decide (x - y < y - x) = true := by simp; omega
      have d2 : decide (y - x < x - y) = false := by simp; omega
      go_enter Try.func100, Try.ntmps100
      go_wp2
      go_ret
      exact ⟨ret_int (by rw [Hv.out]; simp; try omega), rfl⟩
    · subst hxy
      go_enter Try.func100, Try.ntmps100
      go_wp2
      go_ret
      exact ⟨ret_int (by rw [Hv.out]; simp; try rfl), rfl⟩
    · have e1 : ¬ x - y < y - x := by omega
      have e2 : y - x < x - y := by omega
      have e3 : ¬ x ≤ y := by omega
      have d1 : decide (x - y < y - x) = false := by simp; omega
      have d2 : decide (y - x < x - y) = true := by simp; omega
      go_enter Try.func100, Try.ntmps100
      go_wp2
      go_ret
      exact ⟨ret_int (by rw [Hv.out]; simp [sq_opp x y]; try omega), rfl⟩

theorem f101_c (x y k : Int) (w : World) (hx : -60000 ≤ x ∧ x ≤ 60000) (hy : -60000 ≤ y ∧ y ≤ 60000) (hk : k = 1 ∨ k = 2) :
    Calls Try.prog 101 #[.int .i64 x, .int .i64 y, .int .i64 k] w fun e w' => e = .returned (.int .i64 (priceV x y k)) ∧ w = w' := by
  have hp := priceV_bd hx hy 2
  have hq : priceV x y 2 = (y - x) * (y - x) := by
    unfold priceV distI; rw [if_pos rfl]; split
    · rfl
    · exact sq_opp x y
  have hp2 : 0 ≤ (x - y) * (x - y) ∧ (x - y) * (x - y) ≤ 14400000000 := by rw [sq_opp, ← hq]; exact hp
  rw [hq] at hp
  have Hv : Hid (priceV x y k = if k = 2 then (y - x) * (y - x) else if x ≤ y then y - x else x - y) := Lib.hid (by
    by_cases h2 : k = 2
    · rw [if_pos h2, h2, hq]
    · unfold priceV distI; rw [if_neg h2, if_neg h2])
  clear hq
  rcases hk with rfl | rfl
  all_goals
    rcases Int.lt_trichotomy x y with hxy | hxy | hxy
    · have e1 : x - y < y - x := by omega
      have e2 : ¬ y - x < x - y := by omega
      have d1 : decide (x - y < y - x) = true := by simp; omega
      have d2 : decide (y - x < x - y) = false := by simp; omega
      go_enter Try.func101, Try.ntmps101
      go_wp2
      go_ret
      exact ⟨ret_int (by rw [Hv.out]; simp; try omega), rfl⟩
    · subst hxy
      go_enter Try.func101, Try.ntmps101
      go_wp2
      go_ret
      exact ⟨ret_int (by rw [Hv.out]; simp; try rfl), rfl⟩
    · have e1 : ¬ x - y < y - x := by omega
      have e2 : y - x < x - y := by omega
      have e3 : ¬ x ≤ y := by omega
      have d1 : decide (x - y < y - x) = false := by simp; omega
      have d2 : decide (y - x < x - y) = true := by simp; omega
      go_enter Try.func101, Try.ntmps101
      go_wp2
      go_ret
      exact ⟨ret_int (by rw [Hv.out]; simp [sq_opp x y]; try omega), rfl⟩

theorem f110_c (x y k : Int) (w : World) (hx : -60000 ≤ x ∧ x ≤ 60000) (hy : -60000 ≤ y ∧ y ≤ 60000) (hk : k = 1 ∨ k = 2) :
    Calls Try.prog 110 #[.int .i64 x, .int .i64 y, .int .i64 k] w fun e w' => e = .returned (.int .i64 (priceV x y k)) ∧ w = w' := by
  have hp := priceV_bd hx hy 2
  have hq : priceV x y 2 = (y - x) * (y - x) := by
    unfold priceV distI; rw [if_pos rfl]; split
    · rfl
    · exact sq_opp x y
  have hp2 : 0 ≤ (x - y) * (x - y) ∧ (x - y) * (x - y) ≤ 14400000000 := by rw [sq_opp, ← hq]; exact hp
  rw [hq] at hp
  have Hv : Hid (priceV x y k = if k = 2 then (y - x) * (y - x) else if x ≤ y then y - x else x - y) := Lib.hid (by
    by_cases h2 : k = 2
    · rw [if_pos h2, h2, hq]
    · unfold priceV distI; rw [if_neg h2, if_neg h2])
  clear hq
  rcases hk with rfl | rfl
  all_goals
    rcases Int.lt_trichotomy x y with hxy | hxy | hxy
    · have e1 : x - y < y - x := by omega
      have e2 : ¬ y - x < x - y := by omega
      have d1 : decide (x - y < y - x) = true := by simp; omega
      have d2 : decide (y - x < x - y) = false := by simp; omega
      go_enter Try.func110, Try.ntmps110
      go_wp2
      go_ret
      exact ⟨ret_int (by rw [Hv.out]; simp; try omega), rfl⟩
    · subst hxy
      go_enter Try.func110, Try.ntmps110
      go_wp2
      go_ret
      exact ⟨ret_int (by rw [Hv.out]; simp; try rfl), rfl⟩
    · have e1 : ¬ x - y < y - x := by omega
      have e2 : y - x < x - y := by omega
      have e3 : ¬ x ≤ y := by omega
      have d1 : decide (x - y < y - x) = false := by simp; omega
      have d2 : decide (y - x < x - y) = true := by simp; omega
      go_enter Try.func110, Try.ntmps110
      go_wp2
      go_ret
      exact ⟨ret_int (by rw [Hv.out]; simp [sq_opp x y]; try omega), rfl⟩

end Go.Proofs.Ytgnjaapjaglleaa
