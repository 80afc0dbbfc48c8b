/- Contracts of mass, where all fits: ValidatePlan, total, pair, slices.Equal. -/
import Derived.Test.YtfhgnmijigdlmaaTr6
namespace Go.Proofs.Ytfhgnmijigdlmaa.Tr
open Go.RowKit
attribute [local go_sem] GW.cell
theorem f124_c (n : Int) (w : World) :
    Calls Try.prog 124 #[.int .i64 n] w fun e w' => e = .returned (.bool (!withinB n 0 150)) ∧ w = w' := by
  go_enter Try.func124, Try.ntmps124
  go_wp2
  all_goals (go_ret; exact ⟨ret_bool (by rw [Bool.eq_iff_iff]; simp [withinB]; try omega), rfl⟩)
theorem f115_124  (a : Option Addr) (c : Nat) (l : List Int) (w : World) (hl : Ints w a l) (hlen : l.length ≤ 140737488355328)  :
    Calls Try.prog 115 #[.slice a l.length c, .func (.func 124) #[] #[]] w fun e w' => e = .returned (.int .i64 (idxP (fun n => !withinB n 0 150) l)) ∧ w = w' := by
  go_enter Try.func115, Try.ntmps115
  go_wp2_with fail
  go_loop [5, 8] (fun _ i => ∃ k : Nat, k ≤ l.length ∧ i = .int .i64 k ∧ Hid (∀ j, j < k → (fun n => !withinB n 0 150) (l[j]?.getD 0) = false)) (fun _ i => l.length - (intOf i).toNat)
  case atStart => exact ⟨0, Nat.zero_le _, rfl, fun j hj => by omega⟩
  case round =>
    obtain ⟨k, hk, rfl, H⟩ := hrel
    by_cases hlt : k < l.length
    · obtain ⟨b, off, rfl, hb, hcc⟩ := hl k hlt
      rw [List.getElem?_eq_getElem hlt, Option.getD_some] at hcc
      go_wp2_with (go_at_call 124; refine (f124_c _ _).mono ?_; rintro e w' ⟨rfl, rfl⟩)
      · have hy : (!withinB l[k] 0 150) = true := by assumption
        go_ret
        exact ⟨ret_int (idxP_hit (p := (fun n => !withinB n 0 150)) hlt H.out hy).symm, rfl⟩
      · have hy : (!withinB l[k] 0 150) = false := by assumption
        go_round
        case rel =>
          refine ⟨k + 1, by omega, by go_num, fun j hj => ?_⟩
          by_cases e : j = k
          · subst e; rw [List.getElem?_eq_getElem hlt]; exact hy
          · exact H.out j (by omega)
        case measure => simp [intOf]; omega
    · obtain rfl : k = l.length := by omega
      go_wp2_with fail
      go_ret
      exact ⟨ret_int (idxP_miss (p := (fun n => !withinB n 0 150)) H.out).symm, rfl⟩
theorem f71_124  (a : Option Addr) (c : Nat) (l : List Int) (w : World) (hl : Ints w a l) (hlen : l.length ≤ 140737488355328)  :
    Calls Try.prog 71 #[.slice a l.length c, .func (.func 124) #[] #[]] w fun e w' => e = .returned (.bool (!okRow 0 150 l)) ∧ w = w' := by
  go_enter Try.func71, Try.ntmps71
  go_wp2_with (go_at_call 115; refine (f115_124 _ _ _ _ hl hlen ).mono ?_; rintro e w' ⟨rfl, rfl⟩)
  go_ret
  exact ⟨ret_bool ((idxP_geq _ _).trans (okRow_any _ _ _)), rfl⟩
set_option maxHeartbeats 1000000 in
theorem f126_c (a : Option Addr) (n c : Nat) (l : List Int) (w : World) (hl : Ints w a l) (hn : l.length = n) (hlen : n ≤ 1000) (hbd : ∀ j, j < l.length → -1000000000000 ≤ gi l j ∧ gi l j ≤ 1000000000000) :
    Calls Try.prog 126 #[.slice a n c] w fun e w' => e = .returned (.int .i64 (sm l)) ∧ w = w' := by
  subst hn
  have Hbd := Lib.hid (smTo_bd2 (M := 1000000000000) hbd)
  have Hb := Lib.hid hbd
  clear hbd
  go_enter Try.func126, Try.ntmps126
  go_wp2_with fail
  go_loop [3, 5, 8] (fun s _ i => ∃ k : Nat, k ≤ l.length ∧ i = .int .i64 k ∧ s = .int .i64 (smTo l k)) (fun _ _ i => l.length - (intOf i).toNat)
  case atStart => exact ⟨0, Nat.zero_le _, rfl, rfl⟩
  case round =>
    obtain ⟨k, hk, rfl, rfl⟩ := hrel
    by_cases hlt : k < l.length
    · obtain ⟨b, off, rfl, hb, hcc⟩ := hl k hlt
      rw [← gi_at] at hcc
      have h1 := Hbd.out k (by omega)
      have h2 := Hb.out k hlt
      have Hs := Lib.hid (smTo_succ l k)
      generalize gi l k = x at *
      generalize smTo l k = y at *
      go_wp2_with fail
      go_round
      case rel => exact ⟨k + 1, by omega, by go_num, by rw [Hs.out]⟩
      case measure => simp [intOf]; omega
    · obtain rfl : k = l.length := by omega
      go_wp2_with fail
      go_ret
      exact ⟨rfl, rfl⟩
set_option maxHeartbeats 4000000 in
theorem f103_ok (a : Option Addr) (n m c : Nat) (t : Tbl) (w : World) (hl : Table w a t) (hT : TOk n m 0 150 t) :
    Calls Try.prog 103 #[.slice a n c] w fun e w' => e = .returned (.int .i64 0) ∧ Ext w w' := by
  have hn1 := hT.n1
  have hn5 := hT.n5
  have hm1 := hT.m1
  have hm5 := hT.m5
  obtain ⟨b0, o0, a0, c0, rfl, hb0, hc0, -⟩ := hl 0 (by rw [hT.len]; omega)
  have e0 : t[0]'(by rw [hT.len]; omega) = row t 0 := (row_at _).symm
  rw [e0, hT.cols 0 (by omega)] at hc0
  simp only [Nat.add_zero] at hc0
  have HT := Lib.hid hT
  have HL := Lib.hid hl
  clear hT hl e0
  go_enter Try.func103, Try.ntmps103
  go_wp2_with fail
  go_loopw [4, 15] (fun _ i wr => ∃ k : Nat, k ≤ n ∧ i = .int .i64 k ∧ Ext w wr) (fun _ i _ => n - (intOf i).toNat)
  case atStart => exact ⟨0, Nat.zero_le _, rfl, Below.refl _ _⟩
  case round =>
    obtain ⟨k, hk, rfl, hE⟩ := hrel
    by_cases hlt : k < n
    case neg =>
      obtain rfl : k = n := by omega
      go_wp2_with fail
      go_ret
      exact ⟨rfl, hE⟩
    have hkt : k < t.length := by rw [HT.out.len]; exact hlt
    obtain ⟨b1, o1, a1, c1, e1, hb1, hc1, hI1⟩ := HL.out k hkt
    simp only [Option.some.injEq, Addr.mk.injEq, and_true] at e1
    obtain ⟨rfl, rfl⟩ := e1
    rw [← row_at hkt] at hc1 hI1
    have hlen1 := HT.out.cols k hlt
    have C := f71_124 a1 c1 (row t k) wr (hI1.ext hE) (by rw [hlen1]; omega)
    rw [hlen1] at C hc1
    have hok : okRow 0 150 (row t k) = true := by
      unfold okRow
      rw [List.all_eq_true]
      intro z hz
      obtain ⟨j, hj, rfl⟩ := List.mem_iff_getElem.1 hz
      have := HT.out.bd k j hlt (by rw [← hlen1]; exact hj)
      unfold tg at this
      rw [gi_get hj] at this
      exact withinB_iff.2 this
    rw [hok] at C
    have C := Lib.hid C
    have hc0' := (hE.cell' hb0).trans hc0
    have hc1' := (hE.cell' hb1).trans hc1
    have hz := Nat.lt_of_lt_of_le hb0 hE.size
    clear hok hlen1 hI1 hkt hc1 hc0
    go_wp2_with fail
    refine C.out.mono ?_
    rintro e w1 ⟨rfl, rfl⟩
    go_wp2_with fail
    go_roundw
    case rel => exact ⟨k + 1, by omega, by go_num, hE⟩
    case measure => simp [intOf]; omega
set_option maxHeartbeats 2000000 in
theorem f105_ok (ax bx : Option Addr) (n m ca cb : Nat) (x y : List Int) (w : World) (hx : Ints w ax x) (hxn : x.length = n) (hy : Ints w bx y) (hyn : y.length = m) (h1 : massB x = true) (h2 : massB y = true) (hs : sm x = sm y) :
    Calls Try.prog 105 #[.slice ax n ca, .slice bx m cb] w fun e w' => e = .returned (.int .i64 0) ∧ w = w' := by
  have m1 := massB_ok h1
  have m2 := massB_ok h2
  have C1 := f104_c ax n ca x w hx hxn (by omega)
  have C2 := f104_c bx m cb y w hy hyn (by omega)
  unfold valM at C1 C2
  rw [h1] at C1
  rw [h2] at C2
  have C3 := f126_c ax n ca x w hx hxn (by omega) (fun j hj => by have := m1.2.2 j hj; omega)
  have C4 := f126_c bx m cb y w hy hyn (by omega) (fun j hj => by have := m2.2.2 j hj; omega)
  rw [hs] at C3
  have C1 := Lib.hid C1
  have C2 := Lib.hid C2
  have C3 := Lib.hid C3
  have C4 := Lib.hid C4
  clear h1 h2 hs m1 m2 hx hy hxn hyn
  generalize sm y = S at *
  have hSS : (S != S) = false := by simp
  go_enter Try.func105, Try.ntmps105
  go_wp2_with fail
  refine C1.out.mono ?_
  rintro e w1 ⟨rfl, rfl⟩
  go_wp2_with fail
  refine C2.out.mono ?_
  rintro e w1 ⟨rfl, rfl⟩
  go_wp2_with fail
  refine C3.out.mono ?_
  rintro e w1 ⟨rfl, rfl⟩
  go_wp2_with fail
  refine C4.out.mono ?_
  rintro e w1 ⟨rfl, rfl⟩
  go_wp2_with fail
  go_ret
  exact ⟨rfl, rfl⟩
set_option maxHeartbeats 4000000 in
theorem f107_yes (a b : Option Addr) (n c d : Nat) (l : List Int) (w : World) (hl : Ints w a l) (hk : Ints w b l) (hn : l.length = n) (hlen : n ≤ 1000000) :
    Calls Try.prog 107 #[.slice a n c, .slice b n d] w fun e w' => e = .returned (.bool true) ∧ Ext w w' := by
  have HA := Lib.hid hl
  have HB := Lib.hid hk
  have Hn := Lib.hid hn
  clear hl hk hn
  go_enter Try.func107, Try.ntmps107
  go_wp2_with fail
  go_loopw [13] (fun i wr => ∃ q : Nat, q ≤ n ∧ i = .int .i64 q ∧ Ext w wr) (fun i _ => n - (intOf i).toNat)
  case atStart => exact ⟨0, Nat.zero_le _, rfl, Below.refl _ _⟩
  case round =>
    obtain ⟨q, hq, rfl, hE⟩ := hrel
    by_cases hlt : q < n
    case neg =>
      obtain rfl : q = n := by omega
      go_wp2_with fail
      go_ret
      exact ⟨rfl, hE⟩
    obtain ⟨b1, o1, rfl, hb1, hc1⟩ := HA.out.ext hE q (by rw [Hn.out]; exact hlt)
    obtain ⟨b2, o2, rfl, hb2, hc2⟩ := HB.out.ext hE q (by rw [Hn.out]; exact hlt)
    rw [← gi_at] at hc1 hc2
    generalize gi l q = z at *
    have hzz : (z != z) = false := by simp
    go_wp2_with fail
    refine wp_region_ext (by kernel_rfl) (by kernel_rfl) ?_
    repeat (go_big_quiet_step (fail))
    refine wpQuiet_nil ?_
    intro w1 hE1
    go_wp2_with fail
    go_roundw
    case rel => exact ⟨q + 1, by omega, by go_num, hE.trans' hE1⟩
    case measure => simp [intOf]; omega
end Go.Proofs.Ytfhgnmijigdlmaa.Tr
