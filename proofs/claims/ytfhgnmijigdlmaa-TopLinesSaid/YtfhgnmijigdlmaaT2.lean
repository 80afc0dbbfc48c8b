/- Contracts of the line: prices, costs of moves, opened atoms. -/
import Derived.Test.YtfhgnmijigdlmaaT1
namespace Go.Proofs.Ytfhgnmijigdlmaa
open Go.RowKit
attribute [local go_sem] GW.cell

theorem sq_opp (x y : Int) : (x - y) * (x - y) = (y - x) * (y - x) := by
  have e : x - y = -(y - x) := by omega
  rw [e, Int.neg_mul_neg]
theorem f110_c (x y k : Int) (w : World) (hx : -60000 ≤ x ∧ x ≤ 60000) (hy : -60000 ≤ y ∧ y ≤ 60000) (hk : k = 1 ∨ k = 2) :
    Calls Try.prog 110 #[.int .i64 x, .int .i64 y, .int .i64 k] w fun e w' => e = .returned (.int .i64 (priceV x y k)) ∧ w = w' := by
  have hp := priceV_bd hx hy 2
  have hq : priceV x y 2 = (y - x) * (y - x) := by
    unfold priceV distI; rw [if_pos rfl]; split
    · rfl
    · exact sq_opp x y
  have hp2 : 0 ≤ (x - y) * (x - y) ∧ (x - y) * (x - y) ≤ 14400000000 := by rw [sq_opp, ← hq]; exact hp
  rw [hq] at hp
  have Hv : Hid (priceV x y k = if k = 2 then (y - x) * (y - x) else if x ≤ y then y - x else x - y) := Lib.hid (by
    by_cases h2 : k = 2
    · rw [if_pos h2, h2, hq]
    · unfold priceV distI; rw [if_neg h2, if_neg h2])
  clear hq
  rcases hk with rfl | rfl
  all_goals
    rcases Int.lt_trichotomy x y with hxy | hxy | hxy
    · have e1 : x - y < y - x := by omega
      have e2 : ¬ y - x < x - y := by omega
      have d1 : decide (x - y < y - x) = true := by simp; omega
      have d2 : decide (y - x < x - y) = false := by simp; omega
      go_enter Try.func110, Try.ntmps110
      go_wp2
      go_ret
      exact ⟨ret_int (by rw [Hv.out]; simp; try omega), rfl⟩
    · subst hxy
      go_enter Try.func110, Try.ntmps110
      go_wp2
      go_ret
      exact ⟨ret_int (by rw [Hv.out]; simp; try rfl), rfl⟩
    · have e1 : ¬ x - y < y - x := by omega
      have e2 : y - x < x - y := by omega
      have e3 : ¬ x ≤ y := by omega
      have d1 : decide (x - y < y - x) = false := by simp; omega
      have d2 : decide (y - x < x - y) = true := by simp; omega
      go_enter Try.func110, Try.ntmps110
      go_wp2
      go_ret
      exact ⟨ret_int (by rw [Hv.out]; simp [sq_opp x y]; try omega), rfl⟩

/-- moves that are not too large to add up -/
def MBd (M : List Move) : Prop := ∀ x ∈ M, (1 ≤ x.m ∧ x.m ≤ 1000) ∧ (-60000 ≤ x.fr ∧ x.fr ≤ 60000) ∧ (-60000 ≤ x.to ∧ x.to ≤ 60000)
theorem costTo_succ {M : List Move} {q : Nat} (hq : q < M.length) (k : Int) : costTo M k (q + 1) = costTo M k q + M[q].m * priceV M[q].fr M[q].to k := by
  unfold costTo; simp only [sumR]; rw [mvK_at hq]
theorem cost_term {M : List Move} (h : MBd M) {q : Nat} (hq : q < M.length) (k : Int) : 0 ≤ M[q].m * priceV M[q].fr M[q].to k ∧ M[q].m * priceV M[q].fr M[q].to k ≤ 14400000000000 := by
  have h1 := h _ (List.getElem_mem hq)
  have h2 := priceV_bd h1.2.1 h1.2.2 k
  exact ⟨Int.mul_nonneg (by omega) h2.1, by have := Int.mul_le_mul h1.1.2 h2.2 h2.1 (by omega); omega⟩
theorem costTo_bd {M : List Move} (h : MBd M) (k : Int) : ∀ n, n ≤ M.length → 0 ≤ costTo M k n ∧ costTo M k n ≤ n * 14400000000000
  | 0, _ => by simp [costTo, sumR]
  | n + 1, hn => by
    have ih := costTo_bd h k n (by omega)
    have h1 := cost_term h (show n < M.length by omega) k
    rw [costTo_succ (by omega)]
    omega
set_option maxHeartbeats 2000000 in
theorem f66_c (a : Option Addr) (n c : Nat) (M : List Move) (k : Int) (w : World) (hl : Moves w a M) (hn : M.length = n) (hlen : n ≤ 100) (hM : MBd M) (hk : k = 1 ∨ k = 2) :
    Calls Try.prog 66 #[.slice a n c, .int .i64 k] w fun e w' => e = .returned (.int .i64 (costTo M k n)) ∧ Ext w w' := by
  subst hn
  have HM := Lib.hid hM
  have Hk := Lib.hid hk
  clear hM hk
  go_enter Try.func66, Try.ntmps66
  go_wp2_with fail
  go_loopw [5, 10] (fun s i wr => ∃ q : Nat, q ≤ M.length ∧ i = .int .i64 q ∧ s = .int .i64 (costTo M k q) ∧ Ext w wr) (fun _ i _ => M.length - (intOf i).toNat)
  case atStart => exact ⟨0, Nat.zero_le _, rfl, rfl, Below.refl _ _⟩
  case round =>
    obtain ⟨q, hq, rfl, rfl, hE⟩ := hrel
    by_cases hlt : q < M.length
    · obtain ⟨b, off, rfl, hb, hx, hy, hz⟩ := hl.ext hE q hlt
      have b0 := costTo_bd HM.out k q (by omega)
      have b1 := cost_term HM.out hlt k
      have b2 := HM.out _ (List.getElem_mem hlt)
      have Hs := Lib.hid (costTo_succ hlt k)
      have Hp := Lib.hid (fun W => f110_c M[q].fr M[q].to k W b2.2.1 b2.2.2 Hk.out)
      generalize priceV M[q].fr M[q].to k = P at *
      generalize M[q].m = mm at *
      generalize M[q].fr = ff at *
      generalize M[q].to = tt at *
      generalize costTo M k q = A at *
      clear b2
      go_wp2_with fail
      refine wp_region_ext (by kernel_rfl) (by kernel_rfl) ?_
      repeat (go_big_quiet_step ((go_at_call 110; exact quiet_same (Hp.out _))))
      refine wpQuiet_nil ?_
      intro w1 hE1
      go_wp2_with fail
      go_roundw
      case rel => exact ⟨q + 1, by omega, by go_num, by rw [Hs.out], hE.trans' ((ext_alloc _ _).trans' hE1)⟩
      case measure => simp [intOf]; omega
    · obtain rfl : q = M.length := by omega
      go_wp2_with fail
      go_ret
      exact ⟨rfl, hE⟩

theorem info118 : (Try.prog.info? 118).map (fun i => (i.zero, i.size, i.bytes)) = some (some (.agg #[.int .i64 0, .int .i64 0, .int .i64 0]), 3, 24) := by kernel_rfl
theorem reads_open1 (w : World) (p m : Int) (T : TypeId) : Reads (w.alloc (.cells #[.int .i64 p, .int .i64 m, .int .i64 m] T)) (w.alloc (.cells #[.int .i64 p, .int .i64 m, .int .i64 m] T)).heap.size 3 (some ⟨w.heap.size, 0, none⟩) 1 [.int .i64 p, .int .i64 m, .int .i64 m] :=
  ⟨rfl, fun _ => ⟨_, rfl, by simp, fun j u' hj => by
    match j, hj with
    | 0, hj => simp at hj; subst hj; rw [add_at]; simp
    | 1, hj => simp at hj; subst hj; rw [add_at]; simp
    | 2, hj => simp at hj; subst hj; rw [add_at]; simp
    | j + 3, hj => simp at hj⟩⟩
set_option maxRecDepth 20000 in
set_option maxHeartbeats 4000000 in
theorem f111_c (a : Option Addr) (n c : Nat) (l : List Atom) (w : World) (hl : Atoms w a l) (hn : l.length = n) (hF : Fine l) :
    Calls Try.prog 111 #[.slice a n c] w fun e w' => ∃ v, e = .returned v ∧ w'.ownsRow w.heap.size 118 3 v l.length (openV l) ∧ Ext w w' := by
  subst hn
  obtain ⟨i0, hi⟩ := info_parts info118
  have Hi := Lib.hid hi
  have h40 := hF.1
  clear hi hF
  go_enter Try.func111, Try.ntmps111
  go_wp2_with fail
  go_loopw [3, 8] (fun v i wr => ∃ k : Nat, k ≤ l.length ∧ i = .int .i64 k ∧ Ext w wr ∧ Hid (wr.ownsRow w.heap.size 118 3 v k (openV (l.take k)))) (fun _ i _ => l.length - (intOf i).toNat)
  case atStart => exact ⟨0, Nat.zero_le _, rfl, Below.refl _ _, World.ownsRow_nil _ _ _ _⟩
  case round =>
    obtain ⟨k, hk, rfl, hE, H⟩ := hrel
    by_cases hlt : k < l.length
    · obtain ⟨b, off, rfl, hb, hx, hy⟩ := hl.ext hE k hlt
      have Hs : Hid (openV (l.take (k + 1)) = openV (l.take k) ++ [.int .i64 l[k].p, .int .i64 l[k].m, .int .i64 l[k].m]) := Lib.hid (by
        rw [List.take_succ_eq_append_getElem hlt, openV_append]; rfl)
      generalize l[k].p = pp at *
      generalize l[k].m = mm at *
      have hE1 := hE.trans' (ext_alloc wr (.cells #[.int .i64 pp, .int .i64 mm] 50))
      have H1 := Lib.hid (H.out.alloc (.cells #[.int .i64 pp, .int .i64 mm] 50))
      have hs1 := hE1.size
      have hn := reads_open1 (wr.alloc (.cells #[.int .i64 pp, .int .i64 mm] 50)) pp mm 118
      rw [show (wr.alloc (.cells #[.int .i64 pp, .int .i64 mm] 50)).heap.size = wr.heap.size + 1 by simp] at hn
      have Hn := Lib.hid hn
      clear hn
      go_wp2_with (at_builtin; refine wpList_append_any _ rfl (.tmp 12) (.tmp 17) 115 rfl w.heap.size 118 i0 _ 3 24 Try.underlying115 Hi.out.1 Hi.out.2.1 Hi.out.2.2.1 Hi.out.2.2.2 rfl (by omega) _ k _ rfl (H1.out.alloc _) _ (some ⟨wr.heap.size + 1, 0, none⟩) 1 1 [.int .i64 pp, .int .i64 mm, .int .i64 mm] rfl Hn.out (by simp [Value.oneCell']) (by unfold maxLen; omega) (by omega) (by simp; have := hE.size; omega) ?_; intro v' w9 hown hgrow hat; have hE9 := ext_append hE1 H1.out (Nat.le_refl _) hgrow; have H9 : Hid (w9.ownsRow w.heap.size 118 3 v' (k + 1) (openV (l.take (k + 1)))) := (by rw [Hs.out]; exact hown); clear hat hgrow hown)
      go_roundw
      case rel => exact ⟨k + 1, by omega, by go_num, hE9, H9⟩
      case measure => simp [intOf]; omega
    · obtain rfl : k = l.length := by omega
      have H2 := H.out
      rw [List.take_length] at H2
      obtain ⟨av, cv, rfl⟩ := slice_form H2
      go_wp2_with fail
      go_ret
      exact ⟨_, rfl, H2, hE⟩
end Go.Proofs.Ytfhgnmijigdlmaa
