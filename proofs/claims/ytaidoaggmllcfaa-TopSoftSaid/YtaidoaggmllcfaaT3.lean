/- Contracts of layer 6: copies, turned tables, kernels, sums. -/
import Derived.Test.YtaidoaggmllcfaaT2
import Derived.Test.YtaidoaggmllcfaaTab2
namespace Go.Proofs.Ytaidoaggmllcfaa
open Go.RowKit
attribute [local go_sem] GW.cell

theorem info3 : (Try.prog.info? 3).map (fun i => (i.zero, i.size, i.bytes)) = some (some (.int .i64 0), 1, 8) := by kernel_rfl
theorem info31 : (Try.prog.info? 31).map (fun i => (i.zero, i.size, i.bytes)) = some (some (.slice none 0 0), 1, 24) := by kernel_rfl
theorem infoI : InfoOk Try.prog 3 (.int .i64 0) 1 8 := info_parts info3
theorem infoS : InfoOk Try.prog 31 (.slice none 0 0) 1 24 := info_parts info31

/-- a power of two for each cost -/
def kerV (c s : Int) : Int := if 12 ≤ c / s then 1 else wrap64 (2 ^ (12 - if c / s < 12 then c / s else 12).toNat)
theorem pow_bd {d : Int} (h0 : 0 ≤ d) (h1 : d ≤ 12) : (1 : Int) ≤ 2 ^ d.toNat ∧ (2 : Int) ^ d.toNat ≤ 4096 := by
  have : d = 0 ∨ d = 1 ∨ d = 2 ∨ d = 3 ∨ d = 4 ∨ d = 5 ∨ d = 6 ∨ d = 7 ∨ d = 8 ∨ d = 9 ∨ d = 10 ∨ d = 11 ∨ d = 12 := by omega
  rcases this with rfl | rfl | rfl | rfl | rfl | rfl | rfl | rfl | rfl | rfl | rfl | rfl | rfl <;> decide
theorem shl_one {P : Program} {w : World} {d : Int} (h0 : 0 ≤ d) (h1 : d ≤ 12) : (Op.shift BinOp.shl IntKind.i64 1 IntKind.i64 (wrap64 d)).run P w = .ok (.int .i64 (2 ^ d.toNat)) w := by
  have hw : wrap64 d = d := by unfold wrap64; omega
  rw [hw, shift_shl_any _ _ _ _ h0]
  have : d = 0 ∨ d = 1 ∨ d = 2 ∨ d = 3 ∨ d = 4 ∨ d = 5 ∨ d = 6 ∨ d = 7 ∨ d = 8 ∨ d = 9 ∨ d = 10 ∨ d = 11 ∨ d = 12 := by omega
  rcases this with rfl | rfl | rfl | rfl | rfl | rfl | rfl | rfl | rfl | rfl | rfl | rfl | rfl <;> rfl
theorem kerV_bd {c s : Int} (hc : 0 ≤ c) (hs : 1 ≤ s) : 1 ≤ kerV c s ∧ kerV c s ≤ 4096 := by
  have := Int.ediv_nonneg hc (show 0 ≤ s by omega)
  unfold kerV
  split
  · omega
  · next h => rw [if_pos (by omega)]; have := pow_bd (d := 12 - c / s) (by omega) (by omega); unfold wrap64; omega
def kernelT (cost : Tbl) (s : Int) : Tbl := mk cost.length (row cost 0).length fun i j => kerV (tg cost i j) s

set_option maxRecDepth 20000 in
set_option maxHeartbeats 4000000 in
theorem f58_c (a : Option Addr) (n c : Nat) (t : Tbl) (s : Int) (w : World) (hl : Table w a t) (hn : t.length = n) (hok : tabB 0 99 t = true) (hs : 1 ≤ s ∧ s ≤ 99) :
    Calls Try.prog 58 #[.slice a n c, .int .i64 s] w (RetT 31 (kernelT t s) w) := by
  subst hn
  have H0 := tabB_ok hok
  have hn5 := H0.n5
  have hm5 := H0.m5
  have HT := Lib.hid H0
  unfold kernelT
  generalize (row t 0).length = m at *
  clear H0 hok
  go_enter Try.func58, Try.ntmps58
  go_wp2_with fail
  go_loopw [5, 7, 8, 10, 13] (fun v _ _ _ i wr => ∃ k : Nat, k ≤ t.length ∧ i = .int .i64 k ∧ Ext w wr ∧ Hid (OwnT 31 wr w.heap.size wr.heap.size v (mk k m fun i j => kerV (tg t i j) s))) (fun _ _ _ _ i _ => t.length - (intOf i).toNat)
  case atStart => exact ⟨0, Nat.zero_le _, rfl, Below.refl _ _, OwnT.nil _ _ _⟩
  case round =>
    obtain ⟨k, hk, rfl, hE, H⟩ := hrel
    by_cases hlt : k < t.length
    · obtain ⟨b1, o1, a1, c1, rfl, hb1, hc1, hI1⟩ := hl.ext hE k hlt
      have hm := HT.out.cols k hlt
      rw [row_at hlt] at hm
      have Hb := Lib.hid (fun j (hj : j < m) => HT.out.bd k j hlt hj)
      unfold tg at Hb
      rw [row_at hlt] at Hb
      have Hg := Lib.hid (map_succ m fun j => kerV (gi t[k] j) s)
      rw [hm] at hc1
      have hI1' : Hid (t[k].length = m) := Lib.hid hm
      obtain ⟨wo, rfl⟩ : ∃ wo : World, wo = wr := ⟨_, rfl⟩
      go_wp2_with fail
      go_loopw [8, 10, 19] (fun v _ i wr => ∃ q : Nat, q ≤ m ∧ i = .int .i64 q ∧ Ext wo wr ∧ Hid (wr.ownsRow wo.heap.size 3 1 v q (((List.range q).map fun j => kerV (gi t[k] j) s).map (.int .i64)))) (fun _ _ i _ => m - (intOf i).toNat)
      case atStart => exact ⟨0, Nat.zero_le _, rfl, Below.refl _ _, World.ownsRow_nil _ _ _ _⟩
      case round =>
        obtain ⟨q, hq, rfl, hE3, Hq⟩ := hrel
        by_cases hlq : q < m
        · have hqt : q < t[k].length := by have := hI1'.out; omega
          obtain ⟨b2, o2, rfl, hb2, hc2⟩ := hI1.ext hE3 q hqt
          rw [← gi_at] at hc2
          have hbd := Hb.out q hlq
          have Hs := Lib.hid (map_succ q fun j => kerV (gi t[k] j) s)
          generalize gi t[k] q = x at *
          have hsz := hE3.size
          have hd0 := Int.ediv_nonneg hbd.1 (show 0 ≤ s by omega)
          have hE4 := hE.trans' hE3
          by_cases h12 : 12 ≤ x / s
          · have hy : Hid (kerV x s = 1) := Lib.hid (by unfold kerV; rw [if_pos h12])
            go_wp2_with (at_builtin; refine wpList_push rfl (.tmp 23) (.tmp 30) 31 rfl infoI Try.underlying31 rfl rfl rfl (by simp [Value.oneCell']) Hq.out (by omega) (by omega) (by omega) ?_; intro v' w' hown hP)
            go_roundw
            case rel => exact ⟨q + 1, by omega, by go_num, hP.ext hE3 Hq.out (Nat.le_refl _), by rw [Hs.out, List.map_append, hy.out]; exact hown⟩
            case measure => simp [intOf]; omega
          · have hy : Hid (kerV x s = wrap64 (2 ^ (12 - if x / s < 12 then x / s else 12).toNat)) := Lib.hid (by unfold kerV; rw [if_neg h12])
            go_wp2_with (at_builtin; refine wpList_push rfl (.tmp 23) (.tmp 30) 31 rfl infoI Try.underlying31 rfl rfl rfl (by simp [Value.oneCell']) Hq.out (by omega) (by omega) (by omega) ?_; intro v' w' hown hP)
            go_roundw
            case rel => exact ⟨q + 1, by omega, by go_num, hP.ext hE3 Hq.out (Nat.le_refl _), by rw [Hs.out, List.map_append, hy.out]; exact hown⟩
            case measure => simp [intOf]; omega
        · obtain rfl : q = m := by omega
          have hE4 := hE.trans' hE3
          obtain ⟨a8, c8, rfl⟩ := slice_form Hq.out
          obtain ⟨A, C, G, O, HL⟩ := H.out
          have hsz := hE3.size
          have hsz0 := hE.size
          have HL2 := Lib.hid (HL.ext hE3)
          have HL1 := Lib.hid HL
          clear HL H
          go_wp2_with (at_builtin; refine wpList_push rfl (.tmp 33) (.tmp 35) 22 rfl infoS Try.underlying22 rfl rfl rfl (by simp [Value.oneCell']) HL2.out.own (by simp [mk_len]; omega) (by omega) (by omega) ?_; intro v' w' hown hP)
          go_roundw
          case rel =>
            have hr := HL1.out.push2 ((List.range q).map fun j => kerV (gi t[k] j) s) (by simp) (mk_len _ _ _) hE3 Hq.out (Nat.le_refl _) hE.size hP (by rw [mk_len] at hown; exact hown)
            exact ⟨k + 1, by omega, by go_num, hP.ext hE4 HL2.out.own (Nat.le_refl _), by rw [mk_succ]; have e : (fun j => kerV (tg t k j) s) = fun j => kerV (gi t[k] j) s := (by funext j; unfold tg; rw [row_at hlt]); rw [e]; exact hr⟩
          case measure => simp [intOf]; omega
    · obtain rfl : k = t.length := by omega
      obtain ⟨A, C, G, O, HL⟩ := H.out
      obtain ⟨a8, c8, e8⟩ := slice_form HL.own
      subst e8
      have HT2 := Lib.hid (show OwnT 31 wr w.heap.size wr.heap.size _ _ from ⟨A, C, G, O, HL⟩)
      clear HL H
      go_wp2_with fail
      go_ret
      exact ⟨_, rfl, HT2.out, hE⟩

set_option maxRecDepth 20000 in
set_option maxHeartbeats 4000000 in
theorem f21_c (a : Option Addr) (n c : Nat) (t : Tbl) (w : World) (hl : Table w a t) (hn : t.length = n) (hlen : n ≤ 1000000) (hin : ∀ j, (hj : j < t.length) → t[j].length ≤ 1000000) :
    Calls Try.prog 21 #[.slice a n c] w (RetT 31 t w) := by
  subst hn
  obtain ⟨i0, hi0⟩ := infoI
  have Hi := Lib.hid hi0
  have Hin := Lib.hid hin
  clear hi0 hin
  go_enter Try.func21, Try.ntmps21
  go_wp2_with fail
  go_loopw [3, 4] (fun v i wr => ∃ k : Nat, k ≤ t.length ∧ i = .int .i64 k ∧ Ext w wr ∧ Hid (OwnT 31 wr w.heap.size wr.heap.size v (t.take k))) (fun _ i _ => t.length - (intOf i).toNat)
  case atStart => exact ⟨0, Nat.zero_le _, rfl, Below.refl _ _, OwnT.nil _ _ _⟩
  case round =>
    obtain ⟨k, hk, rfl, hE, H⟩ := hrel
    by_cases hlt : k < t.length
    · obtain ⟨b1, o1, a1, c1, rfl, hb1, hc1, hI1⟩ := hl.ext hE k hlt
      have hil := Hin.out k hlt
      have Hr := Lib.hid (reads_ints (hI1.ext (ext_alloc wr (.cells #[] 3))))
      have Hrow := Lib.hid (row_empty wr 3 1)
      obtain ⟨A, C, G, O, HL⟩ := H.out
      have HL1 := Lib.hid HL
      have hsz := hE.size
      have htk : (t.take k).length = k := by simp; omega
      have Htk := Lib.hid htk
      have Hs := Lib.hid (List.take_succ_eq_append_getElem hlt)
      have hone : ∀ u ∈ t[k].map (Value.int IntKind.i64), u.oneCell' = true := by intro u hu; simp at hu; obtain ⟨x, _, rfl⟩ := hu; rfl
      have Hone := Lib.hid hone
      clear HL H hone htk
      go_wp2_with (first
        | (at_builtin; refine wpList_append_any _ rfl (.tmp 12) (.tmp 16) 31 rfl wr.heap.size 3 i0 (.int .i64 0) 1 8 Try.underlying31 Hi.out.1 Hi.out.2.1 Hi.out.2.2.1 Hi.out.2.2.2 rfl (by omega) (.slice (some ⟨wr.heap.size, 0, none⟩) 0 0) 0 [] rfl Hrow.out _ a1 t[k].length c1 (t[k].map (.int .i64)) rfl Hr.out Hone.out (by unfold maxLen; omega) (by omega) (by simp) ?_; intro v1 w1 hown hgrow hat; have hX1 := ext_grow (ext_alloc _ _) Hrow.out (Nat.le_refl _) hgrow; rw [Nat.zero_add, List.nil_append] at hown; obtain ⟨a8, c8, rfl⟩ := slice_form hown; have Hown := Lib.hid hown; have HL2 := Lib.hid (HL1.out.ext hX1); have hsz1 := hX1.size; clear hown hgrow hat)
        | (at_builtin; refine wpList_push rfl (.tmp 11) (.tmp 18) 22 rfl infoS Try.underlying22 rfl rfl rfl (by simp [Value.oneCell']) HL2.out.own (by rw [Htk.out]; omega) (by omega) (by omega) ?_; intro v' w' hown hP))
      go_roundw
      case rel =>
        have hr := HL1.out.push2 t[k] rfl Htk.out hX1 Hown.out (Nat.le_refl _) hE.size hP (by rw [Htk.out] at hown; exact hown)
        exact ⟨k + 1, by omega, by go_num, hP.ext (hE.trans' hX1) HL2.out.own (Nat.le_refl _), by rw [Hs.out]; exact hr⟩
      case measure => simp [intOf]; omega
    · obtain rfl : k = t.length := by omega
      have H2 := H.out
      rw [List.take_length] at H2
      obtain ⟨A, C, G, O, HL⟩ := H2
      obtain ⟨a8, c8, e8⟩ := slice_form HL.own
      subst e8
      have HT2 := Lib.hid (show OwnT 31 wr w.heap.size wr.heap.size _ _ from ⟨A, C, G, O, HL⟩)
      clear HL H
      go_wp2_with fail
      go_ret
      exact ⟨_, rfl, HT2.out, hE⟩

def turnT (n m : Nat) (t : Tbl) : Tbl := mk m n fun i j => tg t j i
set_option maxRecDepth 20000 in
set_option maxHeartbeats 4000000 in
theorem f71_c (a : Option Addr) (n c m : Nat) (t : Tbl) (w : World) (hl : Table w a t) (hn : t.length = n) (h1 : 1 ≤ n) (h5 : n ≤ 5) (hm5 : m ≤ 5) (hc : ∀ i, i < n → (row t i).length = m) :
    Calls Try.prog 71 #[.slice a n c] w (RetT 31 (turnT n m t) w) := by
  subst hn
  have Hc := Lib.hid hc
  unfold turnT
  clear hc
  go_enter Try.func71, Try.ntmps71
  go_wp2_with fail
  go_loopw [3, 4, 5, 6] (fun v i _ _ wr => ∃ k : Nat, k ≤ m ∧ i = .int .i64 k ∧ Ext w wr ∧ Hid (OwnT 31 wr w.heap.size wr.heap.size v (mk k t.length fun i j => tg t j i))) (fun _ i _ _ _ => m - (intOf i).toNat)
  case atStart => exact ⟨0, Nat.zero_le _, rfl, Below.refl _ _, OwnT.nil _ _ _⟩
  case round =>
    obtain ⟨k, hk, rfl, hE, H⟩ := hrel
    obtain ⟨b0, o0, a0, c0, rfl, hb0, hc0, hI0⟩ := hl.ext hE 0 (by omega)
    have hm := Hc.out 0 (by omega)
    rw [row_at (by omega)] at hm
    rw [hm] at hc0
    simp only [Nat.add_zero] at hc0
    have Hm := Lib.hid hm
    clear hm
    by_cases hlt : k < m
    · obtain ⟨wo, rfl⟩ : ∃ wo : World, wo = wr := ⟨_, rfl⟩
      go_wp2_with fail
      go_loopw [5, 6] (fun v i wr => ∃ q : Nat, q ≤ t.length ∧ i = .int .i64 q ∧ Ext wo wr ∧ Hid (wr.ownsRow wo.heap.size 3 1 v q (((List.range q).map fun j => tg t j k).map (.int .i64)))) (fun _ i _ => t.length - (intOf i).toNat)
      case atStart => exact ⟨0, Nat.zero_le _, rfl, Below.refl _ _, World.ownsRow_nil _ _ _ _⟩
      case round =>
        obtain ⟨q, hq, rfl, hE3, Hq⟩ := hrel
        by_cases hlq : q < t.length
        · obtain ⟨b1, o1, a1, c1, e1, hb1, hc1, hI1⟩ := (hl.ext hE).ext hE3 q hlq
          simp only [Option.some.injEq, Addr.mk.injEq, and_true] at e1
          obtain ⟨rfl, rfl⟩ := e1
          have hmq := Hc.out q (by omega)
          rw [row_at hlq] at hmq
          obtain ⟨b2, o2, rfl, hb2, hc2⟩ := hI1 k (by omega)
          rw [← gi_at, ← row_at hlq] at hc2
          rw [hmq] at hc1
          have Hs := Lib.hid (map_succ q fun j => tg t j k)
          have hx : Hid (gi (row t q) k = tg t q k) := Lib.hid rfl
          generalize gi (row t q) k = x at *
          have hsz := hE3.size
          clear hmq hI1
          go_wp2_with (at_builtin; refine wpList_push rfl (.tmp 21) (.tmp 29) 31 rfl infoI Try.underlying31 rfl rfl rfl (by simp [Value.oneCell']) Hq.out (by omega) (by omega) (by omega) ?_; intro v' w' hown hP)
          go_roundw
          case rel => exact ⟨q + 1, by omega, by go_num, hP.ext hE3 Hq.out (Nat.le_refl _), by rw [Hs.out, List.map_append, ← hx.out]; exact hown⟩
          case measure => simp [intOf]; omega
        · obtain rfl : q = t.length := by omega
          obtain ⟨a8, c8, rfl⟩ := slice_form Hq.out
          obtain ⟨A, C, G, O, HL⟩ := H.out
          have hsz := hE3.size
          have hsz0 := hE.size
          have HL2 := Lib.hid (HL.ext hE3)
          have HL1 := Lib.hid HL
          clear HL H
          go_wp2_with (at_builtin; refine wpList_push rfl (.tmp 31) (.tmp 33) 22 rfl infoS Try.underlying22 rfl rfl rfl (by simp [Value.oneCell']) HL2.out.own (by simp [mk_len]; omega) (by omega) (by omega) ?_; intro v' w' hown hP)
          go_roundw
          case rel =>
            have hr := HL1.out.push2 ((List.range t.length).map fun j => tg t j k) (by simp) (mk_len _ _ _) hE3 Hq.out (Nat.le_refl _) hE.size hP (by rw [mk_len] at hown; exact hown)
            exact ⟨k + 1, by omega, by go_num, hP.ext (hE.trans' hE3) HL2.out.own (Nat.le_refl _), by rw [mk_succ]; exact hr⟩
          case measure => simp [intOf]; omega
    · obtain rfl : k = m := by omega
      obtain ⟨A, C, G, O, HL⟩ := H.out
      obtain ⟨a8, c8, e8⟩ := slice_form HL.own
      subst e8
      have HT2 := Lib.hid (show OwnT 31 wr w.heap.size wr.heap.size _ _ from ⟨A, C, G, O, HL⟩)
      clear HL H
      go_wp2_with fail
      go_ret
      exact ⟨_, rfl, HT2.out, hE⟩

/-- a part of a mass in grains, rounded down -/
def shareV (n mass all : Int) : Int := if all = 0 then 0 else n * mass * 1000 / all
theorem f106_c (n mass all : Int) (w : World) (hp : 0 ≤ n * mass ∧ n * mass ≤ 1000000000000) (ha : 0 ≤ all ∧ all ≤ 1000000000000) :
    Calls Try.prog 106 #[.int .i64 n, .int .i64 mass, .int .i64 all] w fun e w' => e = .returned (.int .i64 (shareV n mass all)) ∧ w = w' := by
  by_cases h : all = 0
  · subst h
    go_enter Try.func106, Try.ntmps106
    go_wp2_with fail
    go_ret
    exact ⟨rfl, rfl⟩
  · have d : (all == 0) = false := by simp [h]
    have hv : Hid (shareV n mass all = n * mass * 1000 / all) := Lib.hid (by unfold shareV; rw [if_neg h])
    have h1 : 1 ≤ all := by omega
    have hq := Int.ediv_nonneg (a := n * mass * 1000) (b := all) (by omega) (by omega)
    have hq2 := Int.ediv_le_self (a := n * mass * 1000) all (by omega)
    clear h
    go_enter Try.func106, Try.ntmps106
    go_wp2_with fail
    go_ret
    exact ⟨ret_int (by rw [hv.out]), rfl⟩

/-! ### the sums of the rows and of the columns -/
def rowSums (t : Tbl) (n : Nat) : List Int := (List.range n).map fun i => sm (row t i)
/-- the sums of m columns, of the first k rows; those of the first q columns with one row more -/
def colSums (t : Tbl) (m k q : Nat) : List Int := (List.range m).map fun j => if j < q then csTo t j (k + 1) else csTo t j k
theorem colSums_zero (t : Tbl) (m : Nat) : colSums t m 0 0 = List.replicate m 0 := by
  apply List.ext_getElem (by simp [colSums])
  intro i h1 h2
  simp [colSums, csTo]
theorem colSums_at {t : Tbl} {m k q : Nat} (hq : q < m) : (colSums t m k q)[q]? = some (csTo t q k) := by simp [colSums, hq]
theorem colSums_set {t : Tbl} {m k q : Nat} (_hq : q < m) : (colSums t m k q).set q (csTo t q k + tg t k q) = colSums t m k (q + 1) := by
  apply List.ext_getElem (by simp [colSums])
  intro j h1 h2
  rw [List.getElem_set]
  simp only [colSums, List.getElem_map, List.getElem_range]
  by_cases e : q = j
  · subst e; rw [if_pos rfl, if_pos (by omega)]; rfl
  · rw [if_neg e]
    by_cases h : j < q
    · rw [if_pos h, if_pos (by omega)]
    · rw [if_neg h, if_neg (by omega)]
theorem colSums_full (t : Tbl) (m k : Nat) : colSums t m k m = colSums t m (k + 1) 0 := by
  unfold colSums
  apply List.map_congr_left
  intro j hj
  rw [List.mem_range] at hj
  rw [if_pos hj, if_neg (by omega)]
theorem colSums_len (t : Tbl) (m k q : Nat) : (colSums t m k q).length = m := by simp [colSums]
theorem gi_colSums {t : Tbl} {m k q j : Nat} (h : j < m) : gi (colSums t m k q) j = if j < q then csTo t j (k + 1) else csTo t j k := by simp [gi, colSums, h]
theorem rowSums_len (t : Tbl) (n : Nat) : (rowSums t n).length = n := by simp [rowSums]
theorem gi_rowSums {t : Tbl} {n i : Nat} (h : i < n) : gi (rowSums t n) i = sm (row t i) := by simp [gi, rowSums, h]
theorem made_one (z : Value) (n : Nat) : (madeCells #[z] (n * 1)).toList = List.replicate n z := by
  apply List.ext_getElem (by simp [madeCells])
  intro i h1 h2
  simp [madeCells, Nat.mod_one]
theorem csTo_bd {t : Tbl} {n m : Nat} {lo hi : Int} (h : TOk n m lo hi t) (h0 : 0 ≤ lo) {j : Nat} (hj : j < m) : ∀ k, k ≤ n → 0 ≤ csTo t j k ∧ csTo t j k ≤ k * hi
  | 0, _ => by simp [csTo]
  | k + 1, hk => by
    have h1 := csTo_bd h h0 hj k (by omega)
    have h2 := h.bd k j (by omega) hj
    have e : ((k + 1 : Nat) : Int) * hi = k * hi + hi := by rw [show ((k + 1 : Nat) : Int) = (k : Int) + 1 by omega, Int.add_mul, Int.one_mul]
    show 0 ≤ csTo t j k + tg t k j ∧ csTo t j k + tg t k j ≤ _
    omega
/-- two lists of the call's own -/
def RetTwo (l k : List Int) (w : World) (e : Ending) (w' : World) : Prop :=
  ∃ u v B, e = .returned (.tuple #[u, v]) ∧ w'.ownsRow (w.heap.size + 1) 3 1 u l.length (l.map (.int .i64)) ∧ v = .slice (some ⟨B, 0, none⟩) k.length k.length ∧ w'.ownsRow w.heap.size 3 1 v k.length (k.map (.int .i64)) ∧ some B ≠ u.ownBlock ∧ B < w.heap.size + 1 ∧ Ext w w'
set_option maxRecDepth 20000 in
set_option maxHeartbeats 4000000 in
theorem f95_c (a : Option Addr) (n c m : Nat) (t : Tbl) (w : World) (hl : Table w a t) (H0 : TOk n m 0 1000000000 t) :
    Calls Try.prog 95 #[.slice a n c] w (RetTwo (rowSums t n) (colSums t m n 0) w) := by
  have hn5 := H0.n5
  have hm5 := H0.m5
  have hn1 := H0.n1
  have HT := Lib.hid H0
  have hlen := H0.len
  subst hlen
  clear H0
  obtain ⟨i0, hi0⟩ := infoI
  have Hi := Lib.hid hi0
  clear hi0
  have hb0 : 0 < t.length := by omega
  obtain ⟨b0, o0, a0, c0, rfl, hb0, hc0, hI0⟩ := hl 0 hb0
  have hm := HT.out.cols 0 (by omega)
  rw [row_at (by omega)] at hm
  rw [hm] at hc0
  simp only [Nat.add_zero] at hc0
  clear hI0 hm
  go_enter Try.func95, Try.ntmps95
  go_wp2_with (at_make; refine wpList_make_full _ rfl (.tmp 11) (.tmp 11) 31 rfl w.heap.size 3 i0 (.int .i64 0) 1 Try.underlying31 Hi.out.1 Hi.out.2.1 Hi.out.2.2.1 .i64 .i64 m m m rfl rfl rfl rfl (by rw [Hi.out.2.2.2]; omega) (by unfold maxLen; omega) (Nat.le_refl _) ?_; intro w1 hrow hgrow; have hE1 := (Below.refl _ w).grown hgrow (Nat.le_refl _) (by simp); rw [show (Value.int IntKind.i64 0).cells = #[.int .i64 0] from rfl, made_one] at hrow; have Hrow := Lib.hid hrow; clear hrow hgrow)
  have hsz1 : w.heap.size + 1 ≤ w1.heap.size := by obtain ⟨g, cap, e, hb, hlt⟩ := ownsRow_form Hrow.out HT.out.m1; injection e with e; injection e with e; injection e with e; omega
  go_loopw [2, 5, 6, 7, 15] (fun v _ _ _ i wr => ∃ k : Nat, k ≤ t.length ∧ i = .int .i64 k ∧ Ext w wr ∧ w.heap.size + 1 ≤ wr.heap.size ∧ Hid (wr.ownsRow (w.heap.size + 1) 3 1 v k ((rowSums t k).map (.int .i64))) ∧ Hid (wr.ownsRow w.heap.size 3 1 (.slice (some ⟨w.heap.size, 0, none⟩) m m) m ((colSums t m k 0).map (.int .i64)))) (fun _ _ _ _ i _ => t.length - (intOf i).toNat)
  case atStart => exact ⟨0, Nat.zero_le _, rfl, hE1, hsz1, World.ownsRow_nil _ _ _ _, by rw [colSums_zero, List.map_replicate]; exact Hrow⟩
  case round =>
    obtain ⟨k, hk, rfl, hE, hszr, H, HC⟩ := hrel
    by_cases hlt : k < t.length
    · obtain ⟨b1, o1, a1, c1, e1, hb1, hcw, hIw⟩ := hl k hlt
      simp only [Option.some.injEq, Addr.mk.injEq, and_true] at e1
      obtain ⟨rfl, rfl⟩ := e1
      have hc1 := (hE.cell' hb1).trans hcw
      have hI1 := hIw.ext hE
      have hmk := HT.out.cols k hlt
      have Hbd := Lib.hid (fun j (hj : j < m) => HT.out.bd k j hlt hj)
      have Cs := f117_c a1 t[k].length c1 t[k] wr hI1 rfl (by rw [row_at hlt] at hmk; omega) (fun j hj => by have := HT.out.bd k j hlt (by rw [row_at hlt] at hmk; omega); unfold tg at this; rw [row_at hlt] at this; omega)
      rw [row_at hlt] at hmk
      rw [hmk] at hc1 hcw Cs
      have Cs := Lib.hid Cs
      have hrs : Hid ((rowSums t (k + 1)).map (Value.int .i64) = (rowSums t k).map (.int .i64) ++ [.int .i64 (sm t[k])]) := Lib.hid (by unfold rowSums; rw [List.range_succ, List.map_append, List.map_append]; simp only [List.map_cons, List.map_nil]; rw [row_at hlt])
      have hfar := row_far H.out (B := w.heap.size) (by omega)
      have Hm := Lib.hid hmk
      clear hmk
      generalize sm t[k] = y at *
      go_wp2_with (first
        | (go_at_call 117; refine Cs.out.mono ?_; rintro e w' ⟨rfl, rfl⟩)
        | (at_builtin; refine wpList_push rfl (.tmp 19) (.tmp 22) 31 rfl infoI Try.underlying31 rfl rfl rfl (by simp [Value.oneCell']) H.out (by omega) (by omega) (by omega) ?_; intro v2 w2 hown hP; have hP2 : Push wr (.int .i64 y) 3 u2 v2 w2 := hP; have hE2 := hP2.ext hE H.out (Nat.le_succ _); have hsz2 := hP2.size; have Hown := Lib.hid hown; have HC2 := Lib.hid (hP2.row HC.out (fun g hg => by simp [Value.ownBlock] at hg; subst hg; exact hfar)); clear hown hP))
      have hc2 := (hE2.cell' hb1).trans hcw
      go_loopw [6, 7, 26] (fun _ _ i wr => ∃ q : Nat, q ≤ m ∧ i = .int .i64 q ∧ Ext w wr ∧ w.heap.size + 1 ≤ wr.heap.size ∧ Hid (wr.ownsRow (w.heap.size + 1) 3 1 v2 (k + 1) ((rowSums t (k + 1)).map (.int .i64))) ∧ Hid (wr.ownsRow w.heap.size 3 1 (.slice (some ⟨w.heap.size, 0, none⟩) m m) m ((colSums t m k q).map (.int .i64)))) (fun _ _ i _ => m - (intOf i).toNat)
      case atStart => exact ⟨0, Nat.zero_le _, rfl, hE2, by omega, by rw [hrs.out]; exact Hown, HC2⟩
      case round =>
        obtain ⟨q, hq, rfl, hE3, hsz3, H3, HC3⟩ := hrel
        by_cases hlq : q < m
        · obtain ⟨b2, o2, rfl, hb2, hc4⟩ := hIw.ext hE3 q (by have := Hm.out; omega)
          rw [← gi_at, ← row_at hlt] at hc4
          have hbq := Hbd.out q hlq
          have hcb := csTo_bd HT.out (Int.le_refl 0) hlq k (by omega)
          have hx : Hid (gi (row t k) q = tg t k q) := Lib.hid rfl
          have hbq2 : 0 ≤ gi (row t k) q ∧ gi (row t k) q ≤ 1000000000 := hbq
          have hcb2 : csTo t q k ≤ 5000000000 := by have : (k : Int) * 1000000000 ≤ 5 * 1000000000 := Int.mul_le_mul_of_nonneg_right (by omega) (by omega); omega
          have hcb3 := hcb.1
          have hcell := (HC3.out.cellAt q (by omega)).trans (by rw [List.getElem?_map, colSums_at hlq, Option.map_some])
          have hfz := HC3.out.frozenAt q
          have hst := (HC3.out.stored q (.int .i64 (csTo t q k + tg t k q))).1
          rw [← List.map_set, colSums_set hlq] at hst
          have Hst := Lib.hid hst
          have H4 := Lib.hid (row_set_other H3.out (row_far H3.out (B := w.heap.size) (by omega)) q (.int .i64 (csTo t q k + tg t k q)))
          rw [← hx.out] at Hst H4
          clear hst hcb hbq
          generalize gi (row t k) q = x at *
          generalize csTo t q k = y2 at *
          go_wp2_with fail
          go_roundw
          case rel => exact ⟨q + 1, by omega, by go_num, hE3.setCell (Nat.le_refl _) _, by simpa using hsz3, H4, Hst⟩
          case measure => simp [intOf]; omega
        · obtain rfl : q = m := by omega
          rw [colSums_full] at HC3
          go_wp2_with fail
          go_roundw
          case rel => exact ⟨k + 1, by omega, by go_num, hE3, hsz3, H3, HC3⟩
          case measure => simp [intOf]; omega
    · obtain rfl : k = t.length := by omega
      obtain ⟨a8, c8, rfl⟩ := slice_form H.out
      have hfar := row_far H.out (B := w.heap.size) (by omega)
      have Hf := Lib.hid (show RetTwo (rowSums t t.length) (colSums t m t.length 0) w (.returned (.tuple #[.slice a8 t.length c8, .slice (some ⟨w.heap.size, 0, none⟩) m m])) wr from
        ⟨_, _, w.heap.size, rfl, by rw [rowSums_len]; exact H.out, by rw [colSums_len], by rw [colSums_len]; exact HC.out, hfar, by omega, hE⟩)
      go_wp2_with fail
      go_ret2
      exact Hf.out

end Go.Proofs.Ytaidoaggmllcfaa
