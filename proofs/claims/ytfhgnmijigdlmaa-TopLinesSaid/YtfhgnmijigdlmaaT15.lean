/- Contracts of the line: Heights. -/
import Derived.Test.YtfhgnmijigdlmaaT14
namespace Go.Proofs.Ytfhgnmijigdlmaa
open Go.RowKit
attribute [local go_sem] GW.cell
def hsV (a b : List Atom) : List Int := if linePair a b = 0 then heightsL a b else []
theorem sgn_cmp (x y : Int) : Lib.compareInt x y = sgnI (x - y) := by unfold Lib.compareInt sgnI; split <;> split <;> (try split) <;> (try split) <;> omega
theorem hs_take {a b : List Atom} {k : Nat} (hk : k < (placesL2 a b).length) : (heightsL a b).take (k + 1) = (heightsL a b).take k ++ [heightAt a b k] := by
  rw [List.take_succ_eq_append_getElem (by rw [heightsL_length]; exact hk)]
  simp [heightsL]
set_option maxRecDepth 20000 in
set_option maxHeartbeats 8000000 in
theorem f43_c (a1 a2 : Option Addr) (n c n2 c2 : Nat) (a b : List Atom) (w : World) (hl : Atoms w a1 a) (hn : a.length = n) (hlen : n ≤ 1000000) (hm : Atoms w a2 b) (hn2 : b.length = n2) (hlen2 : n2 ≤ 1000000) :
    Calls Try.prog 43 #[.slice a1 n c, .slice a2 n2 c2] w (RetInts (hsV a b) (linePair a b) w) := by
  have C1 := f65_c a1 a2 n c n2 c2 a b w hl hn (by omega) hm hn2 (by omega)
  by_cases hp : linePair a b = 0
  case neg =>
    have hb : (linePair a b != 0) = true := by simp [hp]
    rw [show hsV a b = [] by unfold hsV; rw [if_neg hp]]
    have C1 := Lib.hid C1
    clear hp hn hn2
    generalize linePair a b = E at *
    go_enter Try.func43, Try.ntmps43
    go_wp2_with fail
    refine C1.out.mono ?_
    rintro e w1 ⟨rfl, hE1⟩
    go_wp2_with fail
    go_ret2
    exact retInts_nil hE1
  obtain ⟨v1, v2, -⟩ := linePair_ok hp
  have hLl := places_len v1 v2
  have h6a := (listErr_ok v1).1
  have h6b := (listErr_ok v2).1
  have C2 := Lib.hid (fun W (hx : Ext w W) => f68_c a1 a2 n c n2 c2 a b W (hl.ext hx) hn (hm.ext hx) hn2 v1 v2)
  have C3 := Lib.hid (fun p W (hx : Ext w W) => f78_c a1 n c a p W (hl.ext hx) hn (fine_load v1))
  have C4 := Lib.hid (fun p W (hx : Ext w W) => f78_c a2 n2 c2 b p W (hm.ext hx) hn2 (fine_load v2))
  have C3 : Hid (∀ p W, Ext w W → Calls Try.prog 78 #[.slice a1 n c, .int .i64 p] W fun e w' => e = .returned (.int .i64 (bel a p)) ∧ Ext W w') := C3
  have C4 : Hid (∀ p W, Ext w W → Calls Try.prog 78 #[.slice a2 n2 c2, .int .i64 p] W fun e w' => e = .returned (.int .i64 (bel b p)) ∧ Ext W w') := C4
  rw [show hsV a b = heightsL a b by unfold hsV; rw [if_pos hp]]
  rw [hp] at C1 ⊢
  have C1 := Lib.hid C1
  have HB1 := Lib.hid (fun t => bel_bd v1 t)
  have HB2 := Lib.hid (fun t => bel_bd v2 t)
  have HLb := Lib.hid (fun i (hi : i < (placesL2 a b).length) => places_bd hi)
  have HLs := Lib.hid (fun i (hi : i + 1 < (placesL2 a b).length) => places_gi (a := a) (b := b) (show i < i + 1 by omega) hi)
  have HH := Lib.hid (fun i (hi : i < (placesL2 a b).length) => heights_bd hi)
  have Hs : Hid (∀ q, heightAt a b (q + 1) = heightAt a b q + sgnI (bel a (gi (placesL2 a b) q) - bel b (gi (placesL2 a b) q)) * (gi (placesL2 a b) (q + 1) - gi (placesL2 a b) q)) := Lib.hid (fun q => rfl)
  have H0 : Hid (heightAt a b 0 = 0) := Lib.hid rfl
  have Ht := Lib.hid (fun k (hk : k < (placesL2 a b).length) => hs_take hk)
  have Hg := Lib.hid (fun k (hk : k < (placesL2 a b).length) => heightsL_gi hk)
  have Hlen := Lib.hid (heightsL_length a b)
  have hL12 : (placesL2 a b).length ≤ 12 := by omega
  obtain ⟨i0, hi0⟩ := info_parts infoI
  have Hi := Lib.hid hi0
  clear hi0
  generalize heightAt a b = HA at *
  generalize heightsL a b = HL at *
  generalize placesL2 a b = L at *
  clear hp hn hn2 v1 v2
  go_enter Try.func43, Try.ntmps43
  go_wp2_with fail
  refine C1.out.mono ?_
  rintro e w1 ⟨rfl, hE1⟩
  go_wp2_with fail
  refine (C2.out _ hE1).mono ?_
  rintro e w2 ⟨aL, cL, rfl, hIL, hX2⟩
  have hE2 := hE1.trans' hX2
  have HIL := Lib.hid hIL
  clear hIL
  go_wp2_with fail
  go_loopw [8, 9, 10, 11, 23] (fun v _ _ _ i wr => ∃ k : Nat, k ≤ L.length ∧ i = .int .i64 k ∧ Ext w2 wr ∧ Hid (wr.ownsRow w2.heap.size 3 1 v k ((HL.take k).map (.int .i64)))) (fun _ _ _ _ i _ => L.length - (intOf i).toNat)
  case atStart => exact ⟨0, Nat.zero_le _, rfl, Below.refl _ _, World.ownsRow_nil _ _ _ _⟩
  case round =>
    obtain ⟨k, hk, rfl, hX6, H⟩ := hrel
    have hE6 := hE2.trans' hX6
    by_cases hlt : k < L.length
    · obtain ⟨bl, ol, rfl, hbl, hcl⟩ := HIL.out.ext hX6 k hlt
      rw [← gi_at] at hcl
      have Htk := Lib.hid (Ht.out k hlt)
      cases k with
      | zero =>
        simp only [Nat.add_zero] at hcl
        have Htk2 : Hid (HL.take (0 + 1) = HL.take 0 ++ [0]) := Lib.hid (by rw [Htk.out, H0.out])
        have Hn := Lib.hid (reads_ints (ints_new1 wr 0 3 _ rfl))
        have hsz := hX6.size
        generalize gi L 0 = x at *
        go_wp2_with (at_builtin; refine wpList_append_any _ rfl (.tmp 59) (.tmp 61) 31 rfl w2.heap.size 3 i0 (.int .i64 0) 1 8 Try.underlying31 Hi.out.1 Hi.out.2.1 Hi.out.2.2.1 Hi.out.2.2.2 rfl (by omega) _ 0 _ rfl (H.out.alloc _) _ (some ⟨wr.heap.size, 0, none⟩) 1 1 ([(0 : Int)].map (.int .i64)) rfl Hn.out (by simp [Value.oneCell']) (by unfold maxLen; omega) (by omega) (by simp; omega) ?_; intro v' w4 hown hgrow hat; have hE4 := ext_append hX6 H.out (Nat.le_refl _) hgrow; rw [← List.map_append, ← Htk2.out] at hown; have H4 := Lib.hid hown; clear hat hgrow hown)
        go_roundw
        case rel => exact ⟨1, by omega, by go_num, hE4, H4⟩
        case measure => simp [intOf]; omega
      | succ q =>
        obtain ⟨bl', ol', he1, hbl', hcl'⟩ := HIL.out.ext hX6 q (by omega)
        simp only [Option.some.injEq, Addr.mk.injEq] at he1
        obtain ⟨rfl, rfl, -⟩ := he1
        rw [← gi_at] at hcl'
        obtain ⟨gv, cv, rfl, hgv, hgv2⟩ := ownsRow_form H.out (by omega)
        have hcv : wr.cell? ⟨gv, q, none⟩ = some (.int .i64 (HA q)) := by
          rw [H.out.cellAt q (by omega), List.getElem?_map, List.getElem?_take_of_lt (by omega)]
          have := Hg.out q (by omega)
          unfold gi at this
          have hl : q < HL.length := by have := Hlen.out; omega
          rw [List.getElem?_eq_getElem hl, Option.getD_some] at this
          rw [List.getElem?_eq_getElem hl, this]; rfl
        have t1 := HLb.out q (by omega)
        have t2 := HLb.out (q + 1) hlt
        have t3 := HLs.out q hlt
        have t4 := HH.out q (by omega)
        have b1 := HB1.out (gi L q)
        have b2 := HB2.out (gi L q)
        have D1 := Lib.hid (fun W (hx : Ext wr W) => C3.out (gi L q) W (hE6.trans' hx))
        have D2 := Lib.hid (fun W (hx : Ext wr W) => C4.out (gi L q) W (hE6.trans' hx))
        have D3 := fun W => cmp_Compare_int (bel a (gi L q)) (bel b (gi L q)) W
        rw [sgn_cmp] at D3
        have D3 := Lib.hid (fun W => (D3 W).mono (R' := fun e w' => e = .returned (.int .i64 (sgnI (bel a (gi L q) - bel b (gi L q)))) ∧ W = w') (fun e w' h => ⟨h.1, h.2.symm⟩))
        have hsq : -1 ≤ sgnI (bel a (gi L q) - bel b (gi L q)) ∧ sgnI (bel a (gi L q) - bel b (gi L q)) ≤ 1 := by unfold sgnI; split <;> (try split) <;> omega
        have hmq := sgn_mul (bel a (gi L q) - bel b (gi L q)) (gi L (q + 1) - gi L q) (by omega)
        have Hv := Hs.out q
        have Htk2 : Hid (HL.take (q + 1 + 1) = HL.take (q + 1) ++ [HA q + sgnI (bel a (gi L q) - bel b (gi L q)) * (gi L (q + 1) - gi L q)]) := Lib.hid (by rw [Htk.out, Hv])
        clear Hv Htk
        generalize sgnI (bel a (gi L q) - bel b (gi L q)) = sg at *
        generalize bel a (gi L q) = A1 at *
        generalize bel b (gi L q) = B1 at *
        generalize gi L q = x at *
        generalize gi L (q + 1) = y at *
        generalize HA q = hq' at *
        go_wp2_with fail
        refine wp_region_ext (by kernel_rfl) (by kernel_rfl) ?_
        repeat (go_big_quiet_step (fail))
        go_big_quiet_step ((go_at_call 78; exact quiet_ext (D1.out _ (GW.ext _))))
        repeat (go_big_quiet_step (fail))
        go_big_quiet_step ((go_at_call 78; exact quiet_ext (D2.out _ (GW.ext _))))
        repeat (go_big_quiet_step (fail))
        go_big_quiet_step ((go_at_call 90; exact quiet_same (D3.out _)))
        repeat (go_big_quiet_step (fail))
        refine wpQuiet_nil ?_
        intro w7 hE7
        have H7 := Lib.hid (row_ext H.out hE7)
        have hX7 := hX6.trans' hE7
        have hsz := hX7.size
        have Hn := Lib.hid (reads_ints (ints_new1 w7 (hq' + sg * (y - x)) 3 _ rfl))
        have hq12 : q ≤ 12 := by omega
        go_wp2_with (at_builtin; refine wpList_append_any _ rfl (.tmp 59) (.tmp 61) 31 rfl w2.heap.size 3 i0 (.int .i64 0) 1 8 Try.underlying31 Hi.out.1 Hi.out.2.1 Hi.out.2.2.1 Hi.out.2.2.2 rfl (by omega) _ (q + 1) _ rfl (H7.out.alloc _) _ (some ⟨w7.heap.size, 0, none⟩) 1 1 ([hq' + sg * (y - x)].map (.int .i64)) rfl Hn.out (by simp [Value.oneCell']) (by unfold maxLen; omega) (by omega) (by simp; omega) ?_; intro v' w4 hown hgrow hat; have hE4 := ext_append hX7 H7.out (Nat.le_refl _) hgrow; rw [← List.map_append, ← Htk2.out] at hown; have H4 := Lib.hid hown; clear hat hgrow hown)
        go_roundw
        case rel => exact ⟨q + 1 + 1, by omega, by go_num, hE4, H4⟩
        case measure => simp [intOf]; omega
    · obtain rfl : k = L.length := by omega
      have H2 := H.out
      rw [← Hlen.out, List.take_length] at H2
      obtain ⟨aR, cR, e, hI⟩ := ints_of_row H2
      subst e
      have hf := Lib.hid (show RetInts HL 0 w (.returned (.tuple #[.slice aR HL.length cR, .int .i64 0])) wr from ⟨aR, cR, rfl, hI, hE6⟩)
      clear H H2 hI
      go_wp2_with fail
      go_ret2
      exact hf.out
end Go.Proofs.Ytfhgnmijigdlmaa
