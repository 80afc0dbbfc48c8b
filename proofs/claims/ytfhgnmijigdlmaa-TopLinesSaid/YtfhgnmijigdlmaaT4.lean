/- Contracts of the line: two lists of atoms put together. -/
import Derived.Lib.AppendZerosOnto
import Derived.Lib.Walk
import Derived.Test.YtfhgnmijigdlmaaT3
import Derived.Test.YtfhgnmijigdlmaaPF
namespace Go.Proofs.Ytfhgnmijigdlmaa
open Go.RowKit
attribute [local go_sem] GW.cell
theorem info50 : (Try.prog.info? 50).map (fun i => (i.zero, i.size, i.bytes)) = some (some (.agg #[.int .i64 0, .int .i64 0]), 2, 16) := by kernel_rfl
theorem infoI : (Try.prog.info? 3).map (fun i => (i.zero, i.size, i.bytes)) = some (some (.int .i64 0), 1, 8) := by kernel_rfl
section
open Go.Lib
theorem zeroCells_size2 (v u : Value) (n : Nat) : (Builtin.zeroCells #[v, u] n).size = n * 2 := by simp [Builtin.zeroCells]
set_option maxRecDepth 100000 in
set_option maxHeartbeats 4000000 in
theorem f128_c (n : Nat) (w : World) (h2 : n ≤ 1000) :
    Calls Try.prog 128 #[.slice none 0 0, .int .i64 (n : Int)] w fun e w' => ∃ a c, e = .returned (.slice a 0 c) ∧ w'.ownsRow w.heap.size 50 2 (.slice a 0 c) 0 [] ∧ Ext w w' := by
  obtain ⟨i0, hi0⟩ := info_parts info50
  obtain ⟨hi1, hi2, hi3, hi4⟩ := hi0
  by_cases h1 : 1 ≤ n
  · have hrz : ∀ ty, (Builtin.append_ #[22, 3] ty #[.slice none 0 0, .int .i64 (n : Int)]).run Try.prog w =
        .ok (.slice (some ⟨w.heap.size, 0, none⟩) n (grownCap w n 0 50)) (w.drew.alloc (.cells (#[] ++ Builtin.zeroCells (Value.agg #[.int .i64 0, .int .i64 0]).cells n ++ Builtin.zeroCells (Value.agg #[.int .i64 0, .int .i64 0]).cells (grownCap w n 0 50 - n)) 50)) := fun ty => by
      have h := Lib.run_append_grow_zeros (P := Try.prog) w 22 3 ty 50 i0 (.agg #[.int .i64 0, .int .i64 0]) .i64 .i64 Try.underlying22 Try.underlying3 hi1 hi2 none 0 0 [] (run_firstCells_none w.drew i0.size 0 0 0) n (by omega) (by omega) (by omega) (by omega)
        (by rw [hi4]; omega)
        (growslice_fits (by omega) (by rw [hi4]; omega))
      rw [Nat.zero_add] at h
      exact h
    have hGn : n ≤ grownCap w n 0 50 := grownCap_ge w _ _ _
    have hG63 := grownCap_le_maxLen w n 0 50 (by unfold maxLen; omega)
    have hg1 : w.drew.heap.size = w.heap.size := rfl
    generalize grownCap w n 0 50 = G at *
    have Hr := Lib.hid hrz
    clear hrz
    have hG9 : G ≤ 9223372036854775807 := by unfold maxLen at hG63; omega
    have d1 : decide ((0 : Int) < (n : Int)) = true := by simp; omega
    go_enter Try.func128, Try.ntmps128
    go_wp2_with (at_builtin; refine Lib.wpList_append_run _ rfl _ _ _ _ rfl _ _ rfl rfl _ _ (Hr.out _) ?_)
    go_ret
    refine ⟨_, _, rfl, ⟨rfl, .inr ⟨w.heap.size, G, _, rfl, Nat.le_refl _, heap_alloc_new w _, by omega, hG63, by simp only [Array.size_append, zeroCells_size2]; omega, by simp⟩⟩, (ext_alloc w _).trans' (ext_drew _)⟩
  · obtain rfl : n = 0 := by omega
    clear h1
    go_enter Try.func128, Try.ntmps128
    go_wp2_with fail
    go_ret
    exact ⟨none, 0, rfl, World.ownsRow_nil _ _ _ _, Below.refl _ _⟩
end
theorem flat_succ {t : List (List Atom)} {k : Nat} (hk : k < t.length) : (t.take (k + 1)).flatten = (t.take k).flatten ++ t[k] := by
  rw [List.take_succ_eq_append_getElem hk, List.flatten_append, List.flatten_singleton]
theorem flat_le (t : List (List Atom)) (k : Nat) : (t.take k).flatten.length ≤ t.flatten.length := by
  have h := List.take_append_drop k t
  have : t.flatten.length = ((t.take k).flatten ++ (t.drop k).flatten).length := by rw [← List.flatten_append, h]
  rw [this, List.length_append]; omega
set_option maxRecDepth 20000 in
set_option maxHeartbeats 4000000 in
theorem f112_c (a : Option Addr) (n c : Nat) (t : List (List Atom)) (w : World) (hl : Loads w a t) (hn : t.length = n) (hlen : n ≤ 1000) (h2 : t.flatten.length ≤ 1000) :
    Calls Try.prog 112 #[.slice a n c] w fun e w' => ∃ v, e = .returned v ∧ w'.ownsRow w.heap.size 50 2 v t.flatten.length (atomV t.flatten) ∧ Ext w w' := by
  subst hn
  obtain ⟨i0, hi0⟩ := info_parts info50
  have Hi := Lib.hid hi0
  have Hs := Lib.hid (fun k (hk : k < t.length) => flat_succ hk)
  have Hle := Lib.hid (fun k => flat_le t k)
  clear hi0
  have Hall : Hid ((t.take t.length).flatten = t.flatten) := Lib.hid (by rw [List.take_length])
  obtain ⟨L, hL⟩ : ∃ L, t.flatten = L := ⟨_, rfl⟩
  rw [hL] at h2 Hle Hall ⊢
  clear hL
  go_enter Try.func112, Try.ntmps112
  go_wp2_with fail
  go_loop [3, 5, 11] (fun s _ i => ∃ k : Nat, k ≤ t.length ∧ i = .int .i64 k ∧ s = .int .i64 ((t.take k).flatten.length : Nat)) (fun _ _ i => t.length - (intOf i).toNat)
  case atStart => exact ⟨0, Nat.zero_le _, rfl, by simp⟩
  case round =>
    obtain ⟨k, hk, rfl, rfl⟩ := hrel
    by_cases hlt : k < t.length
    · obtain ⟨b1, o1, a1, c1, rfl, hb1, hc1, hI1⟩ := hl k hlt
      have e1 := Hle.out (k + 1)
      have e2 : Hid ((t.take (k + 1)).flatten.length = (t.take k).flatten.length + t[k].length) := Lib.hid (by rw [Hs.out k hlt, List.length_append])
      rw [e2.out] at e1
      generalize (t.take k).flatten.length = z at *
      generalize t[k].length = z2 at *
      have hnn : decide ((z : Int) + (z2 : Int) < 0) = false := by simp; omega
      go_wp2_with fail
      go_round
      case rel => exact ⟨k + 1, by omega, by go_num, by rw [e2.out]; go_num⟩
      case measure => simp [intOf]; omega
    · obtain rfl : k = t.length := by omega
      rw [Hall.out]
      go_wp2_with fail
      refine (f128_c L.length _ h2).mono ?_
      rintro e w1 ⟨a1, c1, rfl, hrow, hE1⟩
      have Hrow := Lib.hid hrow
      clear hrow
      go_wp2_with fail
      go_loopw [6, 8, 27] (fun v _ i wr => ∃ k : Nat, k ≤ t.length ∧ i = .int .i64 k ∧ Ext w wr ∧ ∃ z : Nat, Hid ((t.take k).flatten.length = z) ∧ Hid (wr.ownsRow w.heap.size 50 2 v z (atomV (t.take k).flatten))) (fun _ _ i _ => t.length - (intOf i).toNat)
      case atStart => exact ⟨0, Nat.zero_le _, rfl, hE1, 0, rfl, Lib.hid (by simpa [atomV] using Hrow.out)⟩
      case round =>
        obtain ⟨k, hk, rfl, hE, z, Hz, H⟩ := hrel
        by_cases hlt : k < t.length
        · obtain ⟨b2, o2, a2, c2, rfl, hb2, hc2, hI2⟩ := hl.ext hE k hlt
          have Hr := Lib.hid (reads_atoms hI2)
          have e1 := Hle.out (k + 1)
          have e2 : Hid ((t.take (k + 1)).flatten = (t.take k).flatten ++ t[k]) := Lib.hid (Hs.out k hlt)
          have e3 : z + t[k].length ≤ 1000 := by rw [e2.out, List.length_append, Hz.out] at e1; omega
          have hsz := hE.size
          go_wp2_with (at_builtin; refine wpList_append_any _ rfl (.tmp 31) (.tmp 32) 22 rfl w.heap.size 50 i0 _ 2 16 Try.underlying22 Hi.out.1 Hi.out.2.1 Hi.out.2.2.1 Hi.out.2.2.2 rfl (by omega) _ z _ rfl H.out _ a2 t[k].length c2 (atomV t[k]) rfl Hr.out (atomV_one_cell _) (by unfold maxLen; omega) (by omega) hsz ?_; intro v' w5 hown hgrow hat; have hE5 := ext_grow hE H.out (Nat.le_refl _) hgrow; have Hown := Lib.hid hown; clear hown hgrow hat)
          go_roundw
          case rel => exact ⟨k + 1, by omega, by go_num, hE5, z + t[k].length, Lib.hid (by rw [e2.out, List.length_append, Hz.out]), by rw [e2.out, atomV_append]; exact Hown⟩
          case measure => simp [intOf]; omega
        · obtain rfl : k = t.length := by omega
          have H2 := H.out
          have hz := Hz.out
          rw [Hall.out] at H2 hz
          rw [← hz] at H2
          obtain ⟨ad, cp, e⟩ := slice_form H2
          subst e
          clear hz
          go_wp2_with fail
          go_ret
          exact ⟨_, rfl, H2, hE⟩
theorem loads_two {w : World} {a1 a2 : Option Addr} {c1 c2 : Nat} {l m : List Atom} (hl : Atoms w a1 l) (hm : Atoms w a2 m) (T : TypeId) : Loads (w.alloc (.cells #[.slice a1 l.length c1, .slice a2 m.length c2] T)) (some ⟨w.heap.size, 0, none⟩) [l, m] := by
  intro j hj
  match j, hj with
  | 0, _ => exact ⟨_, 0, a1, c1, rfl, by simp, by simp, hl.ext (ext_alloc _ _)⟩
  | 1, _ => exact ⟨_, 0, a2, c2, rfl, by simp, by simp, hm.ext (ext_alloc _ _)⟩
end Go.Proofs.Ytfhgnmijigdlmaa
