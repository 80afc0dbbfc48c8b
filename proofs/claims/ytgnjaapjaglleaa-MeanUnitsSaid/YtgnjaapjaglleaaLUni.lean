/- MeanUnits: the law's walk. -/
import Derived.Test.YtgnjaapjaglleaaT19
namespace Go.Proofs.Ytgnjaapjaglleaa
open Go.RowKit
attribute [local go_sem] GW.cell

theorem f21_eq (a b : Option Addr) (n m c d : Nat) (l : List Atom) (w : World) (hl : Atoms w a l) (hk : Atoms w b l) (hn : l.length = n) (hm : l.length = m) (hn1 : n ≤ 140737488355328) :
    Calls Try.prog 21 #[.slice a n c, .slice b m d] w fun e w' => e = .returned (.bool true) ∧ Ext w w' :=
  (f21_c a b n m c d l l w hl hk hn hm hn1 (by omega)).mono fun e w' h => by simpa using h
theorem rev_take {U : List Int} {q i : Nat} (hq : i + 1 + q = U.length) : U.reverse.take (q + 1) = U.reverse.take q ++ [gi U i] := by
  have hl : q < U.reverse.length := by simp; omega
  rw [List.take_succ_eq_append_getElem hl, List.getElem_reverse]
  have : U.length - 1 - q = i := by omega
  simp only [this]
  simp [gi, show i < U.length by omega]
set_option maxRecDepth 20000 in
set_option maxHeartbeats 8000000 in
theorem lawUni (w : World) (a : Option Addr) (n c : Nat) (U : List Int) (hl : Ints w a U) (hn : U.length = n) :
    Calls Try.prog 12 #[.slice a n c] w fun e w' => e = .returned (.bool true) ∧ Ext w w' := by
  subst hn
  obtain ⟨i0, hi⟩ := info_parts info3
  have Hi := Lib.hid hi
  clear hi
  go_enter Try.func12, Try.ntmps12
  by_cases h1 : 1200 < U.length
  · go_wp2_with fail
    refine (f18_c _).mono ?_
    rintro e w9 ⟨rfl, hE9⟩
    go_wp2_with fail
    go_ret
    exact ⟨rfl, hE9⟩
  have hlen : U.length ≤ 1200 := by omega
  have Hrow := Lib.hid (row_empty w 3 1)
  have Hr := Lib.hid (reads_ints (hl.ext (ext_alloc w (.cells #[] 3))))
  clear h1
  go_wp2_with (at_builtin; refine wpList_append_any _ rfl (.tmp 16) (.tmp 17) 30 rfl w.heap.size 3 i0 _ 1 8 Try.underlying30 Hi.out.1 Hi.out.2.1 Hi.out.2.2.1 Hi.out.2.2.2 rfl (by omega) (.slice (some ⟨w.heap.size, 0, none⟩) 0 0) 0 [] rfl Hrow.out _ a U.length c (U.map (.int .i64)) rfl Hr.out (by intro u hu; obtain ⟨x, _, rfl⟩ := List.mem_map.1 hu; rfl) (by unfold maxLen; omega) (by omega) (by simp) ?_; intro v1 w1 hown hgrow hat; have hE1 := ext_grow (ext_alloc _ _) Hrow.out (Nat.le_refl _) hgrow; have hown : w1.ownsRow w.heap.size 3 1 v1 (0 + U.length) (U.map (.int .i64)) := hown; obtain ⟨a1, c1, rfl, hO⟩ := ints_of_row hown; clear hat hgrow hown)
  refine (f42_c a1 U.length c1 U _ hO rfl (by omega)).mono ?_
  rintro e w2 ⟨v2, rfl, hrow, hX2⟩
  obtain ⟨a2, c2, rfl, hA2⟩ := atoms_of_row hrow
  clear hrow
  have hE2 := hE1.trans' hX2
  have hO := hO.ext hX2
  go_wp2_with fail
  refine (f43_c a U.length c U _ (hl.ext hE2) rfl (by omega)).mono ?_
  rintro e w3 ⟨v3, rfl, hrow, hX3⟩
  obtain ⟨a3, c3, rfl, hA3⟩ := atoms_of_row hrow
  clear hrow
  have hE3 := hE2.trans' hX3
  have hO := hO.ext hX3
  have hA2 := hA2.ext hX3
  have hL := from_len (U := U)
  have HP := Lib.hid (from_perm (List.reverse_perm U))
  have hEE : (fromErr U != fromErr U) = false := by simp
  have hEF : (fromErr U == fromErr U) = true := by simp
  go_wp2_with fail
  refine (f21_eq a2 a3 (fromL U).length (fromL U).length c2 c3 (fromL U) w3 hA2 hA3 rfl rfl (by omega)).mono ?_
  rintro e w4 ⟨rfl, hX4⟩
  have hE4 := hE3.trans' hX4
  have hO := hO.ext hX4
  have hA2 := hA2.ext hX4
  clear hA3
  go_wp2_with fail
  refine (f44_same a1 a U.length U.length c1 c U w4 hO (hl.ext hE4) rfl rfl (by omega)).mono ?_
  rintro e w5 ⟨rfl, hX5⟩
  have hE5 := hE4.trans' hX5
  have HA2 := Lib.hid (hA2.ext hX5)
  clear hO hA2
  go_wp2_with fail
  go_loopw [8, 9] (fun v i wr => ∃ q : Nat, q ≤ U.length ∧ i = .int .i64 ((U.length : Int) - 1 - (q : Int)) ∧ Ext w5 wr ∧ Hid (wr.ownsRow w5.heap.size 3 1 v q ((U.reverse.take q).map (.int .i64)))) (fun _ i _ => (intOf i + 1).toNat)
  case atStart => exact ⟨0, Nat.zero_le _, by simp, Below.refl _ _, World.ownsRow_nil _ _ _ _⟩
  case round =>
    obtain ⟨q, hq, rfl, hX6, H⟩ := hrel
    have hE6 := hE5.trans' hX6
    by_cases hlt : q < U.length
    · obtain ⟨i, hi⟩ : ∃ i : Nat, i + 1 + q = U.length := ⟨U.length - 1 - q, by omega⟩
      have hiv : (U.length : Int) - 1 - (q : Int) = (i : Int) := by omega
      have Hd := Lib.hid (rev_take hi)
      have hil : i < U.length := by omega
      have him : i + 1 + q ≤ U.length ∧ U.length ≤ i + 1 + q := by omega
      rw [hiv]
      clear hiv hi
      obtain ⟨b, off, rfl, hb, hc⟩ := hl.ext hE6 i hil
      rw [← gi_at] at hc
      generalize gi U i = x at *
      have Hn := Lib.hid (reads_ints (ints_new1 wr x 3 wr.heap.size rfl))
      have hszx := hX6.size
      have hwi := IntWalk.i64_in ((i : Int) - 1) (by omega)
      go_wp2_with (at_builtin; refine wpList_append_any _ rfl (.tmp 51) (.tmp 56) 30 rfl w5.heap.size 3 i0 (.int .i64 0) 1 8 Try.underlying30 Hi.out.1 Hi.out.2.1 Hi.out.2.2.1 Hi.out.2.2.2 rfl (by omega) _ q _ rfl (Lib.hid (World.ownsRow.alloc H.out _)).out _ (some ⟨wr.heap.size, 0, none⟩) 1 1 [.int .i64 x] rfl Hn.out (by simp [Value.oneCell']) (by unfold maxLen; omega) (by omega) (by simp; omega) ?_; intro v' w9 hown hgrow hat; have hX9 := ext_append hX6 H.out (Nat.le_refl _) hgrow; have H9 : Hid (w9.ownsRow w5.heap.size 3 1 v' (q + 1) ((U.reverse.take (q + 1)).map (.int .i64))) := (by rw [Hd.out, List.map_append]; exact hown); clear hat hgrow hown)
      go_roundw
      case rel => exact ⟨q + 1, by omega, by congr 1 <;> omega, hX9, H9⟩
      case measure => simp [intOf] <;> omega
    · have hqe : q = U.length := by omega
      subst hqe
      have hm1 : (U.length : Int) - 1 - (U.length : Int) = -1 := by omega
      rw [hm1]
      clear hm1
      have H2 := H.out
      rw [List.take_of_length_le (by simp)] at H2
      obtain ⟨ad, cp, he, hI⟩ := ints_of_row H2
      rw [List.length_reverse] at he
      subst he
      have hrl : U.reverse.length = U.length := by simp
      have C := f42_c ad U.length cp U.reverse wr hI hrl (by omega)
      rw [HP.out.1, HP.out.2] at C
      have HA6 := Lib.hid (HA2.out.ext hX6)
      clear H H2 hrl
      obtain ⟨wo, rfl⟩ : ∃ wo : World, wo = wr := ⟨_, rfl⟩
      go_wp2_with fail
      refine C.mono ?_
      clear C
      rintro e w7 ⟨v7, rfl, hrow, hX7⟩
      obtain ⟨a7, c7, rfl, hA7⟩ := atoms_of_row hrow
      clear hrow
      have hE7 := hE6.trans' hX7
      go_wp2_with fail
      refine (f21_eq a7 a2 (fromL U).length (fromL U).length c7 c2 (fromL U) w7 hA7 (HA6.out.ext hX7) rfl rfl (by omega)).mono ?_
      rintro e w8 ⟨rfl, hX8⟩
      have hE8 := hE7.trans' hX8
      go_wp2_with fail
      refine (f18_c _).mono ?_
      rintro e w9 ⟨rfl, hE9⟩
      go_wp2_with fail
      go_ret
      exact ⟨rfl, hE8.trans' hE9⟩
end Go.Proofs.Ytgnjaapjaglleaa
