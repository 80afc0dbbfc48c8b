/- Contracts of layer 6: what a table lacks. -/
import Derived.Lib.AppendZerosOnto
import Derived.Lib.Walk
import Derived.Test.YtaidoaggmllcfaaT8
namespace Go.Proofs.Ytaidoaggmllcfaa
open Go.RowKit
attribute [local go_sem] GW.cell

section
open Go.Lib
theorem zeroCells_size1 (v : Value) (n : Nat) : (Builtin.zeroCells #[v] n).size = n := by simp [Builtin.zeroCells]
set_option maxRecDepth 100000 in
set_option maxHeartbeats 4000000 in
theorem f126_c (n : Nat) (w : World) (h1 : 1 ≤ n) (h2 : n ≤ 1000) :
    Calls Try.prog 126 #[.slice none 0 0, .int .i64 (n : Int)] w fun e w' => ∃ a c, e = .returned (.slice a 0 c) ∧ w'.ownsRow w.heap.size 3 1 (.slice a 0 c) 0 [] ∧ Ext w w' := by
  obtain ⟨i0, hi0⟩ := infoI
  obtain ⟨hi1, hi2, hi3, hi4⟩ := hi0
  have hrz : ∀ ty, (Builtin.append_ #[31, 3] ty #[.slice none 0 0, .int .i64 (n : Int)]).run Try.prog w =
      .ok (.slice (some ⟨w.heap.size, 0, none⟩) n (grownCap w n 0 3)) (w.drew.alloc (.cells (#[] ++ Builtin.zeroCells (Value.int .i64 0).cells n ++ Builtin.zeroCells (Value.int .i64 0).cells (grownCap w n 0 3 - n)) 3)) := fun ty => by
    have h := Lib.run_append_grow_zeros (P := Try.prog) w 31 3 ty 3 i0 (.int .i64 0) .i64 .i64 Try.underlying31 Try.underlying3 hi1 hi2 none 0 0 [] (run_firstCells_none w.drew i0.size 0 0 0) n (by omega) (by omega) (by omega) (by omega)
      (by rw [hi4]; omega)
      (growslice_fits (by omega) (by rw [hi4]; omega))
    rw [Nat.zero_add] at h
    exact h
  have hGn : n ≤ grownCap w n 0 3 := grownCap_ge w _ _ _
  have hG63 := grownCap_le_maxLen w n 0 3 (by unfold maxLen; omega)
  have hg1 : w.drew.heap.size = w.heap.size := rfl
  generalize grownCap w n 0 3 = G at *
  have Hr := Lib.hid hrz
  clear hrz
  have hG9 : G ≤ 9223372036854775807 := by unfold maxLen at hG63; omega
  go_enter Try.func126, Try.ntmps126
  go_wp2_with (at_builtin; refine Lib.wpList_append_run _ rfl _ _ _ _ rfl _ _ rfl rfl _ _ (Hr.out _) ?_)
  go_ret
  refine ⟨_, _, rfl, ⟨rfl, .inr ⟨w.heap.size, G, _, rfl, Nat.le_refl _, heap_alloc_new w _, by omega, hG63, by simp only [Array.size_append, zeroCells_size1]; omega, by simp⟩⟩, (ext_alloc w _).trans' (ext_drew _)⟩

end
/-! ### Concat -/
theorem flat_succ {t : Tbl} {k : Nat} (hk : k < t.length) : (t.take (k + 1)).flatten = (t.take k).flatten ++ t[k] := by
  rw [List.take_succ_eq_append_getElem hk, List.flatten_append, List.flatten_singleton]
theorem flat_le (t : Tbl) (k : Nat) : (t.take k).flatten.length ≤ t.flatten.length := by
  have h := List.take_append_drop k t
  have : t.flatten.length = ((t.take k).flatten ++ (t.drop k).flatten).length := by rw [← List.flatten_append, h]
  rw [this, List.length_append]; omega
theorem ints_one {l : List Int} : ∀ u ∈ l.map (Value.int IntKind.i64), u.oneCell' = true := by intro u hu; simp at hu; obtain ⟨x, _, rfl⟩ := hu; rfl
set_option maxRecDepth 20000 in
set_option maxHeartbeats 4000000 in
theorem f118_c (a : Option Addr) (n c : Nat) (t : Tbl) (w : World) (hl : Table w a t) (hn : t.length = n) (hlen : n ≤ 1000) (h1 : 1 ≤ t.flatten.length) (h2 : t.flatten.length ≤ 1000) :
    Calls Try.prog 118 #[.slice a n c] w (RetI t.flatten w) := by
  subst hn
  obtain ⟨i0, hi0⟩ := infoI
  have Hi := Lib.hid hi0
  have Hs := Lib.hid (fun k (hk : k < t.length) => flat_succ hk)
  have Hle := Lib.hid (fun k => flat_le t k)
  clear hi0
  have Hall : Hid ((t.take t.length).flatten = t.flatten) := Lib.hid (by rw [List.take_length])
  obtain ⟨L, hL⟩ : ∃ L, t.flatten = L := ⟨_, rfl⟩
  rw [hL] at h1 h2 Hle Hall ⊢
  clear hL
  go_enter Try.func118, Try.ntmps118
  go_wp2_with fail
  go_loop [3, 5, 11] (fun s _ i => ∃ k : Nat, k ≤ t.length ∧ i = .int .i64 k ∧ s = .int .i64 ((t.take k).flatten.length : Nat)) (fun _ _ i => t.length - (intOf i).toNat)
  case atStart => exact ⟨0, Nat.zero_le _, rfl, by simp⟩
  case round =>
    obtain ⟨k, hk, rfl, rfl⟩ := hrel
    by_cases hlt : k < t.length
    · obtain ⟨b1, o1, a1, c1, rfl, hb1, hc1, hI1⟩ := hl k hlt
      have e1 := Hle.out (k + 1)
      have e2 : Hid ((t.take (k + 1)).flatten.length = (t.take k).flatten.length + t[k].length) := Lib.hid (by rw [Hs.out k hlt, List.length_append])
      rw [e2.out] at e1
      generalize (t.take k).flatten.length = z at *
      generalize t[k].length = z2 at *
      have hnn : decide ((z : Int) + (z2 : Int) < 0) = false := by simp; omega
      go_wp2_with fail
      go_round
      case rel => exact ⟨k + 1, by omega, by go_num, by rw [e2.out]; go_num⟩
      case measure => simp [intOf]; omega
    · obtain rfl : k = t.length := by omega
      rw [Hall.out]
      go_wp2_with fail
      refine (f126_c L.length _ h1 h2).mono ?_
      rintro e w1 ⟨a1, c1, rfl, hrow, hE1⟩
      have Hrow := Lib.hid hrow
      clear hrow
      go_wp2_with fail
      go_loopw [6, 8, 27] (fun v _ i wr => ∃ k : Nat, k ≤ t.length ∧ i = .int .i64 k ∧ Ext w wr ∧ ∃ z : Nat, Hid ((t.take k).flatten.length = z) ∧ Hid (wr.ownsRow w.heap.size 3 1 v z ((t.take k).flatten.map (.int .i64)))) (fun _ _ i _ => t.length - (intOf i).toNat)
      case atStart => exact ⟨0, Nat.zero_le _, rfl, hE1, 0, rfl, Lib.hid (by simpa using Hrow.out)⟩
      case round =>
        obtain ⟨k, hk, rfl, hE, z, Hz, H⟩ := hrel
        by_cases hlt : k < t.length
        · obtain ⟨b2, o2, a2, c2, rfl, hb2, hc2, hI2⟩ := hl.ext hE k hlt
          have Hr := Lib.hid (reads_ints hI2)
          have e1 := Hle.out (k + 1)
          have e2 : Hid ((t.take (k + 1)).flatten = (t.take k).flatten ++ t[k]) := Lib.hid (Hs.out k hlt)
          have e3 : z + t[k].length ≤ 1000 := by rw [e2.out, List.length_append, Hz.out] at e1; omega
          have hsz := hE.size
          go_wp2_with (at_builtin; refine wpList_append_any _ rfl (.tmp 31) (.tmp 32) 31 rfl w.heap.size 3 i0 (.int .i64 0) 1 8 Try.underlying31 Hi.out.1 Hi.out.2.1 Hi.out.2.2.1 Hi.out.2.2.2 rfl (by omega) _ z _ rfl H.out _ a2 t[k].length c2 (t[k].map (.int .i64)) rfl Hr.out ints_one (by unfold maxLen; omega) (by omega) hsz ?_; intro v' w5 hown hgrow hat; have hE5 := ext_grow hE H.out (Nat.le_refl _) hgrow; have Hown := Lib.hid hown; clear hown hgrow hat)
          go_roundw
          case rel => exact ⟨k + 1, by omega, by go_num, hE5, z + t[k].length, Lib.hid (by rw [e2.out, List.length_append, Hz.out]), by rw [e2.out, List.map_append]; exact Hown⟩
          case measure => simp [intOf]; omega
        · obtain rfl : k = t.length := by omega
          have H2 := H.out
          rw [Hall.out] at H2
          obtain ⟨ad, cp, e, hI⟩ := ints_of_row H2
          subst e
          have hf := Lib.hid (show RetI L w (.returned (.slice ad L.length cp)) wr from ⟨ad, cp, rfl, hI, hE⟩)
          clear H2 H hI
          go_wp2_with fail
          go_ret
          exact hf.out

/-! ### what rows and columns lack -/
def lackR (x : List Int) (t : Tbl) (n : Nat) : List Int := (List.range n).map fun i => gi x i * 1000 - sm (row t i)
def lackC (y : List Int) (t : Tbl) (m : Nat) : List Int := (List.range m).map fun j => gi y j * 1000 - cs t j
def upL (f g : Nat → Int) (n k : Nat) : List Int := (List.range n).map fun i => if i < k then f i else g i
theorem upL_zero (f g : Nat → Int) (n : Nat) : upL f g n 0 = (List.range n).map g := by
  unfold upL
  apply List.map_congr_left
  intro i _
  rw [if_neg (by omega)]
theorem upL_full (f g : Nat → Int) (n : Nat) : upL f g n n = (List.range n).map f := by
  unfold upL
  apply List.map_congr_left
  intro i hi
  rw [List.mem_range] at hi
  rw [if_pos hi]
theorem upL_at {f g : Nat → Int} {n k : Nat} (h : k < n) : (upL f g n k)[k]? = some (g k) := by simp [upL, h]
theorem upL_set {f g : Nat → Int} {n k : Nat} (_h : k < n) : (upL f g n k).set k (f k) = upL f g n (k + 1) := by
  apply List.ext_getElem (by simp [upL])
  intro j h1 h2
  rw [List.getElem_set]
  simp only [upL, List.getElem_map, List.getElem_range]
  by_cases e : k = j
  · subst e; rw [if_pos rfl, if_pos (by omega)]
  · rw [if_neg e]
    by_cases h : j < k
    · rw [if_pos h, if_pos (by omega)]
    · rw [if_neg h, if_neg (by omega)]
theorem lackR_len (x : List Int) (t : Tbl) (n : Nat) : (lackR x t n).length = n := by simp [lackR]
theorem lackC_len (y : List Int) (t : Tbl) (m : Nat) : (lackC y t m).length = m := by simp [lackC]
theorem gi_lackR {x : List Int} {t : Tbl} {n i : Nat} (h : i < n) : gi (lackR x t n) i = gi x i * 1000 - sm (row t i) := by simp [gi, lackR, h]
theorem gi_lackC {y : List Int} {t : Tbl} {m j : Nat} (h : j < m) : gi (lackC y t m) j = gi y j * 1000 - cs t j := by simp [gi, lackC, h]
theorem colSums_cs {n m : Nat} {lo hi : Int} {t : Tbl} (h : TOk n m lo hi t) : colSums t m n 0 = (List.range m).map (cs t) := by
  unfold colSums
  apply List.map_congr_left
  intro j _
  rw [if_neg (by omega), cs_n h]
set_option maxRecDepth 20000 in
set_option maxHeartbeats 8000000 in
theorem f112_c (ax bx a : Option Addr) (n m c ca cb : Nat) (x y : List Int) (t : Tbl) (w : World) (hx : Ints w ax x) (hxn : x.length = n) (hxb : ∀ j, j < n → 0 ≤ gi x j ∧ gi x j ≤ 30) (hy : Ints w bx y) (hyn : y.length = m) (hyb : ∀ j, j < m → 0 ≤ gi y j ∧ gi y j ≤ 30)
    (hl : Table w a t) (H0 : TOk n m 0 1000000 t) :
    Calls Try.prog 112 #[.slice ax n ca, .slice bx m cb, .slice a n c] w (RetTwo (lackR x t n) (lackC y t m) w) := by
  have hn5 := H0.n5
  have hm5 := H0.m5
  have hn1 := H0.n1
  have hm1 := H0.m1
  have C95 := Lib.hid (f95_c a n c m t w hl ⟨H0.n1, H0.n5, H0.m1, H0.m5, H0.len, H0.cols, fun i j hi hj => by have := H0.bd i j hi hj; omega⟩)
  have hcs := colSums_cs H0
  have Hsb := Lib.hid (fun i (hi : i < n) => sm_bd H0 hi)
  have Hcb := Lib.hid (fun j (hj : j < m) => cs_bd H0 hj)
  have Hxb := Lib.hid hxb
  have Hyb := Lib.hid hyb
  have Hxn := Lib.hid hxn
  have Hyn := Lib.hid hyn
  have Hcs := Lib.hid hcs
  clear hcs H0 hxb hyb hxn hyn
  go_enter Try.func112, Try.ntmps112
  go_wp2_with fail
  refine C95.out.mono ?_
  rintro e w1 ⟨u, v, B, rfl, hu, rfl, hv, hBu, hBlt, hE1⟩
  rw [rowSums_len] at hu
  rw [colSums_len] at hv ⊢
  obtain ⟨gu, cu, rfl, hgu, hgl⟩ := ownsRow_form hu (by omega)
  have hne : B ≠ gu := by simpa [Value.ownBlock] using hBu
  have hBl := row_lt hv
  have hBw : w.heap.size ≤ B := by
    obtain ⟨g, cap, e, hb, _⟩ := ownsRow_form hv (by omega)
    injection e with e; injection e with e; injection e with e; omega
  rw [Hcs.out, ← upL_zero (fun j => gi y j * 1000 - cs t j)] at hv
  have hu2 : w1.ownsRow (w.heap.size + 1) 3 1 (.slice (some ⟨gu, 0, none⟩) n cu) n ((upL (fun i => gi x i * 1000 - sm (row t i)) (fun i => sm (row t i)) n 0).map (.int .i64)) := by rw [upL_zero]; exact hu
  have HU := Lib.hid hu2
  have HV := Lib.hid hv
  clear hu hv hu2 hBu C95
  go_wp2_with fail
  go_loopw [8, 9, 19] (fun _ _ i wr => ∃ k : Nat, k ≤ n ∧ i = .int .i64 k ∧ Ext w wr ∧ Hid (wr.ownsRow (w.heap.size + 1) 3 1 (.slice (some ⟨gu, 0, none⟩) n cu) n ((upL (fun i => gi x i * 1000 - sm (row t i)) (fun i => sm (row t i)) n k).map (.int .i64))) ∧ Hid (wr.ownsRow w.heap.size 3 1 (.slice (some ⟨B, 0, none⟩) m m) m ((upL (fun j => gi y j * 1000 - cs t j) (cs t) m 0).map (.int .i64)))) (fun _ _ i _ => n - (intOf i).toNat)
  case atStart => exact ⟨0, Nat.zero_le _, rfl, hE1, HU, HV⟩
  case round =>
    obtain ⟨k, hk, rfl, hE, HU2, HV2⟩ := hrel
    by_cases hlt : k < n
    · obtain ⟨b4, o4, rfl, hb4, hc4⟩ := hx.ext hE k (by have := Hxn.out; omega)
      rw [← gi_at] at hc4
      have hxk := Hxb.out k hlt
      have hsk := Hsb.out k hlt
      have hs2 : sm (row t k) ≤ 5000000 := by have : (m : Int) * 1000000 ≤ 5 * 1000000 := Int.mul_le_mul_of_nonneg_right (by omega) (by omega); omega
      have hs1 := hsk.1
      have hcell := (HU2.out.cellAt k (by omega)).trans (by rw [List.getElem?_map, upL_at hlt, Option.map_some])
      have hfz := HU2.out.frozenAt k
      have hst := (HU2.out.stored k (.int .i64 (gi x k * 1000 - sm (row t k)))).1
      rw [← List.map_set, upL_set (f := fun i => gi x i * 1000 - sm (row t i)) hlt] at hst
      have Hst := Lib.hid hst
      have HV3 := Lib.hid (row_set_other HV2.out (B := gu) (by simp [Value.ownBlock]; omega) k (.int .i64 (gi x k * 1000 - sm (row t k))))
      clear hst hsk
      generalize gi x k = p at *
      generalize sm (row t k) = s at *
      go_wp2_with fail
      go_roundw
      case rel => exact ⟨k + 1, by omega, by go_num, hE.setCell (show w.heap.size ≤ gu by omega) _, Hst, HV3⟩
      case measure => simp [intOf]; omega
    · obtain rfl : k = n := by omega
      have HU4 := HU2
      rw [upL_full] at HU4
      clear HU2 HU HV
      go_wp2_with fail
      go_loopw [10, 11, 37] (fun _ _ i wr => ∃ q : Nat, q ≤ m ∧ i = .int .i64 q ∧ Ext w wr ∧ Hid (wr.ownsRow (w.heap.size + 1) 3 1 (.slice (some ⟨gu, 0, none⟩) k cu) k (((List.range k).map fun i => gi x i * 1000 - sm (row t i)).map (.int .i64))) ∧ Hid (wr.ownsRow w.heap.size 3 1 (.slice (some ⟨B, 0, none⟩) m m) m ((upL (fun j => gi y j * 1000 - cs t j) (cs t) m q).map (.int .i64)))) (fun _ _ i _ => m - (intOf i).toNat)
      case atStart => exact ⟨0, Nat.zero_le _, rfl, hE, HU4, HV2⟩
      case round =>
        obtain ⟨q, hq, rfl, hE, HU5, HV5⟩ := hrel
        by_cases hlt : q < m
        · obtain ⟨b4, o4, rfl, hb4, hc4⟩ := hy.ext hE q (by have := Hyn.out; omega)
          rw [← gi_at] at hc4
          have hxk := Hyb.out q hlt
          have hsk := Hcb.out q hlt
          have hs2 : cs t q ≤ 5000000 := by have : (k : Int) * 1000000 ≤ 5 * 1000000 := Int.mul_le_mul_of_nonneg_right (by omega) (by omega); omega
          have hs1 := hsk.1
          have hcell := (HV5.out.cellAt q (by omega)).trans (by rw [List.getElem?_map, upL_at hlt, Option.map_some])
          have hfz := HV5.out.frozenAt q
          have hst := (HV5.out.stored q (.int .i64 (gi y q * 1000 - cs t q))).1
          rw [← List.map_set, upL_set (f := fun j => gi y j * 1000 - cs t j) hlt] at hst
          have Hst := Lib.hid hst
          have HV3 := Lib.hid (row_set_other HU5.out (B := B) (by simp [Value.ownBlock]; omega) q (.int .i64 (gi y q * 1000 - cs t q)))
          clear hst hsk
          generalize gi y q = p at *
          generalize cs t q = s at *
          go_wp2_with fail
          go_roundw
          case rel => exact ⟨q + 1, by omega, by go_num, hE.setCell hBw _, HV3, Hst⟩
          case measure => simp [intOf]; omega
        · obtain rfl : q = m := by omega
          rw [upL_full] at HV5
          have hf := Lib.hid (show RetTwo (lackR x t k) (lackC y t q) w (.returned (.tuple #[.slice (some ⟨gu, 0, none⟩) k cu, .slice (some ⟨B, 0, none⟩) q q])) wr from
            ⟨_, _, B, rfl, by rw [lackR_len]; exact HU5.out, by rw [lackC_len], by rw [lackC_len]; exact HV5.out, by simpa [Value.ownBlock] using hne, hBlt, hE⟩)
          go_wp2_with fail
          go_ret2
          exact hf.out

end Go.Proofs.Ytaidoaggmllcfaa
