/- MeanMeans: the law's walk. -/
import Derived.Test.YtgnjaapjaglleaaT16
import Derived.Test.YtgnjaapjaglleaaP12
namespace Go.Proofs.Ytgnjaapjaglleaa
open Go.RowKit
attribute [local go_sem] GW.cell

theorem f21_self (a b : Option Addr) (n m c d : Nat) (l : List Atom) (w : World) (hl : Atoms w a l) (hk : Atoms w b l) (hn : l.length = n) (hm : l.length = m) (hn1 : n ≤ 140737488355328) :
    Calls Try.prog 21 #[.slice a n c, .slice b m d] w fun e w' => e = .returned (.bool true) ∧ Ext w w' :=
  (f21_c a b n m c d l l w hl hk hn hm hn1 (by omega)).mono fun e w' h => by simpa using h
theorem wloads {l : List (List Atom)} {ws : List Int} (h : weighedErr l ws = 0) : loadsErr l = 0 := by
  by_cases h0 : loadsErr l = 0
  · exact h0
  · rw [weighed_loads h0] at h; exact absurd h h0
theorem means_len (l : List (List Atom)) (ws : List Int) : (meansL l ws).length ≤ 40 := by
  by_cases h : weighedErr l ws = 0
  · exact (listErr_ok (means_valid h)).1
  · unfold meansL; rw [if_neg h]; simp
set_option maxRecDepth 20000 in
set_option maxHeartbeats 8000000 in
theorem lawMea (w : World) (a : Option Addr) (n c : Nat) (l : List (List Atom)) (hl : Loads w a l) (hn : l.length = n) (hlx : n ≤ 9223372036854775807) (a2 : Option Addr) (n2 c2 : Nat) (ws : List Int) (hw : Ints w a2 ws) (hn2 : ws.length = n2) :
    Calls Try.prog 4 #[.agg #[.slice a n c, .slice a2 n2 c2]] w fun e w' => e = .returned (.bool true) ∧ Ext w w' := by
  subst hn hn2
  have hE0 := ext_alloc w (.cells #[.slice a l.length c, .slice a2 ws.length c2] 32)
  have HB := Lib.hid (BlkC.new w #[.slice a l.length c, .slice a2 ws.length c2] 32)
  have hz := HB.out.lt
  go_enter Try.func4, Try.ntmps4
  go_wp2_with fail
  generalize (w.alloc (.cells #[.slice a l.length c, .slice a2 ws.length c2] 32)) = w0 at *
  refine (f22_c a a2 l.length c ws.length c2 l _ (hl.ext hE0) rfl hlx).mono ?_
  rintro e w1 ⟨rfl, hX1⟩
  have hE1 := hE0.trans' hX1
  rcases Bool.eq_false_or_eq_true (longB l || decide (100 < (ws.length : Int))) with h1 | h1
  · rw [h1]
    go_wp2_with fail
    refine (f18_c _).mono ?_
    rintro e w9 ⟨rfl, hE9⟩
    go_wp2_with fail
    go_ret
    exact ⟨rfl, hE1.trans' hE9⟩
  have h1' := h1
  rw [Bool.or_eq_false_iff] at h1'
  obtain ⟨q1, q2⟩ := longB_no h1'.1
  have hlen3 : ws.length ≤ 140737488355328 := by have := of_decide_eq_false h1'.2; omega
  rw [h1]
  have hlen : l.length ≤ 140737488355328 := by omega
  have Hin : Hid (∀ j, (hj : j < l.length) → l[j].length ≤ 140737488355328) := Lib.hid (fun j hj => by have := q2 j hj; omega)
  have Hin6 : Hid (∀ j, (hj : j < l.length) → l[j].length ≤ 1000000) := Lib.hid (fun j hj => by have := q2 j hj; omega)
  clear q2 h1 h1'
  have HBc := HB.out.ext hX1
  have g0 := HBc.cellv 0 (v := .slice a l.length c) rfl
  clear HBc
  go_wp2_with fail
  refine (f23_c a l.length c l _ (hl.ext hE1) rfl (by omega) Hin6.out).mono ?_
  rintro e w2 ⟨a3, c3, rfl, hO, hX2⟩
  have hE2 := hE1.trans' hX2
  have hX2 := hX1.trans' hX2
  have HBc := HB.out.ext hX2
  have g0 := HBc.cellv 0 (v := .slice a l.length c) rfl
  have g1 := HBc.cellv 1 (v := .slice a2 ws.length c2) rfl
  clear HBc
  go_wp2_with fail
  refine (f24_c a3 a2 l.length c3 ws.length c2 l ws _ hO rfl hlen Hin.out (hw.ext hE2) rfl hlen3).mono ?_
  rintro e w3 ⟨vM, rfl, hrow, hX3⟩
  obtain ⟨aM, cM, rfl, hM⟩ := atoms_of_row hrow
  clear hrow
  have hO := hO.ext hX3
  have hE3 := hE2.trans' hX3
  have hX3 := hX2.trans' hX3
  have HBc := HB.out.ext hX3
  have g0 := HBc.cellv 0 (v := .slice a l.length c) rfl
  have g1 := HBc.cellv 1 (v := .slice a2 ws.length c2) rfl
  clear HBc
  go_wp2_with fail
  refine (f25_c a a2 l.length c ws.length c2 l ws _ (hl.ext hE3) rfl hlen Hin.out (hw.ext hE3) rfl hlen3).mono ?_
  rintro e w4 ⟨vR, rfl, hrow, hX4⟩
  obtain ⟨aR, cR, rfl, hR⟩ := atoms_of_row hrow
  clear hrow
  have hO := hO.ext hX4
  have hM := hM.ext hX4
  have hE4 := hE3.trans' hX4
  have hX4 := hX3.trans' hX4
  have hML : (meansL l ws).length ≤ 40 := means_len l ws
  have hMM : decide (meansL l ws = meansL l ws) = true := by simp
  have hEE : (weighedErr l ws != weighedErr l ws) = false := by simp
  go_wp2_with fail
  refine (f21_self aM aR (meansL l ws).length (meansL l ws).length cM cR (meansL l ws) w4 hM hR rfl rfl (by omega)).mono ?_
  rintro e w5 ⟨rfl, hX5⟩
  have HO5 := Lib.hid (hO.ext hX5)
  have HM5 := Lib.hid (hM.ext hX5)
  have hE5 := hE4.trans' hX5
  have hX5 := hX4.trans' hX5
  clear hO hM hR hX1 hX2 hX3 hX4 g0 g1
  have HB5 := Lib.hid (HB.out.ext hX5)
  have HX5 := Lib.hid hX5
  have hz5 := hX5.size
  clear hX5
  go_wp2_with fail
  go_loopw [8] (fun i wr => ∃ q : Nat, q ≤ l.length ∧ i = .int .i64 q ∧ Ext w5 wr) (fun i _ => l.length - (intOf i).toNat)
  case atStart => exact ⟨0, Nat.zero_le _, rfl, Below.refl _ _⟩
  case round =>
    obtain ⟨q, hq, rfl, hX6⟩ := hrel
    have hE6 := hE5.trans' hX6
    have hz6 := hX6.size
    have HB6 := HB5.out.ext hX6
    have g0 := HB6.cellv 0 (v := .slice a l.length c) rfl
    by_cases hlt : q < l.length
    · obtain ⟨b1, o1, a1, c1, e1, hb1, hc1, hi1⟩ := hl.ext hE6 q hlt
      obtain ⟨b2, o2, a4, c4, e2, hb2, hc2, hi2⟩ := HO5.out.ext hX6 q hlt
      have hd : decide (l.length ≤ q) = false := decide_eq_false (by omega)
      have Hi1 := Lib.hid hi1
      have Hi2 := Lib.hid hi2
      have hq40 := Hin.out q hlt
      clear hi1 hi2 HB6
      subst e1 e2
      have hzB : w.heap.size < wr.heap.size := by omega
      go_wp2_with fail
      refine wp_region_ext (by kernel_rfl) (by kernel_rfl) ?_
      repeat (go_big_quiet_step (fail))
      repeat (go_big_quiet_step (fail))
      go_big_quiet_step ((go_at_call 21; refine quiet_ext (f21_self a4 a1 l[q].length l[q].length c4 c1 l[q] _ ?_ ?_ rfl rfl hq40); exact Hi2.out.ext (GW.ext _); exact Hi1.out.ext (GW.ext _)))
      repeat (go_big_quiet_step (fail))
      refine wpQuiet_nil ?_
      intro w7 hX7
      go_wp2_with fail
      go_roundw
      case rel => exact ⟨q + 1, by omega, by go_num, hX6.trans' hX7⟩
      case measure => simp [intOf]; omega
    · obtain rfl : q = l.length := by omega
      clear HB6 g0
      obtain ⟨w6, rfl⟩ : ∃ w6 : World, w6 = wr := ⟨_, rfl⟩
      by_cases h0 : weighedErr l ws = 0
      · have hld := wloads h0
        have hp := (weighed_ok h0).1.pos
        obtain ⟨hok, hws, hwb⟩ := weighed_ok h0
        have h5 := hok.five
        obtain ⟨s1, -⟩ := rank_scale h0 (r := 0) (by omega)
        obtain ⟨s2, -⟩ := rank_scale h0 (r := l.length - 1) (by omega)
        have hr1 := rank_len 0 hok (by omega)
        have hr2 := rank_len (l.length - 1) hok (by omega)
        obtain ⟨p1, -⟩ := mm_pair h0 (r := 0) (by omega)
        obtain ⟨-, p2⟩ := mm_pair h0 (r := l.length - 1) (by omega)
        obtain ⟨b1, b2⟩ := mm_before h0
        have t1 := scaleL_length (rankL l 0) (sumTo ws l.length)
        have t2 := scaleL_length (rankL l (l.length - 1)) (sumTo ws l.length)
        have u1 : (scaleL (rankL l 0) (sumTo ws l.length)).length ≤ 40 := by omega
        have u2 : (scaleL (rankL l (l.length - 1)) (sumTo ws l.length)).length ≤ 40 := by omega
        have Hw6 : Hid (∀ j, j < ws.length → 0 ≤ gi ws j ∧ gi ws j ≤ 1000000) := Lib.hid (fun j hj => by have := hwb j (by omega); omega)
        have hws1 : l.length ≤ ws.length ∧ ws.length ≤ l.length := by omega
        have Hlw : Hid (sumTo ws ws.length = sumTo ws l.length) := Lib.hid (by rw [hws])
        have HS1 := Lib.hid s1
        have HS2 := Lib.hid s2
        have HP1 := Lib.hid p1
        have HP2 := Lib.hid p2
        have HQ1 := Lib.hid b1
        have HQ2 := Lib.hid b2
        have HL0 := Lib.hid hld
        have HC27 := Lib.hid (fun W (hW : Loads W a l) => f27_c a l.length c l W hW rfl hlen Hin.out)
        have HC28 := Lib.hid (fun W (hW : Loads W a l) => f28_c a l.length c l W hW rfl hlen Hin.out)
        rw [h0]
        clear hok hws hwb t1 t2 s1 s2 p1 p2 b1 b2 h0 hld
        generalize sumTo ws l.length = A at *
        generalize meansL l ws = M at *
        have HV1 : Hid (rankV l 0 = rankL l 0) := Lib.hid (by unfold rankV; rw [if_pos HL0.out])
        have HV2 : Hid (rankV l (l.length - 1) = rankL l (l.length - 1)) := Lib.hid (by unfold rankV; rw [if_pos HL0.out])
        generalize rankL l 0 = R1 at *
        generalize rankL l (l.length - 1) = R2 at *
        have HBc := HB5.out.ext hX6
        have g0 := HBc.cellv 0 (v := .slice a l.length c) rfl
        have g1 := HBc.cellv 1 (v := .slice a2 ws.length c2) rfl
        clear HBc
        go_wp2_with fail
        refine (f26_c a2 ws.length c2 ws _ (hw.ext hE6) rfl (by omega) Hw6.out).mono ?_
        rintro e w7 ⟨rfl, hX7⟩
        rw [Hlw.out]
        have hE7 := hE6.trans' hX7
        have hX7 := hX6.trans' hX7
        have HBc := HB5.out.ext hX7
        have g0 := HBc.cellv 0 (v := .slice a l.length c) rfl
        clear HBc
        go_wp2_with fail
        have C := HC27.out w7 (hl.ext hE7)
        rw [HL0.out, HV1.out] at C
        refine C.mono ?_
        clear C
        rintro e w8 ⟨v8, rfl, hrow, hX8⟩
        obtain ⟨a8, c8, rfl, hA8⟩ := atoms_of_row hrow
        clear hrow
        have hE8 := hE7.trans' hX8
        have hX8 := hX7.trans' hX8
        have HBc := HB5.out.ext hX8
        have g0 := HBc.cellv 0 (v := .slice a l.length c) rfl
        clear HBc
        go_wp2_with fail
        have C := HC28.out w8 (hl.ext hE8)
        rw [HL0.out, HV2.out] at C
        refine C.mono ?_
        clear C
        rintro e w9 ⟨v9, rfl, hrow, hX9⟩
        obtain ⟨a9, c9, rfl, hA9⟩ := atoms_of_row hrow
        clear hrow
        have hA8 := hA8.ext hX9
        have hE9 := hE8.trans' hX9
        have hX9 := hX8.trans' hX9
        go_wp2_with fail
        have C := f29_c a8 R1.length c8 R1 A w9 hA8 rfl (by omega)
        rw [HS1.out] at C
        unfold scaleV at C
        rw [if_pos HS1.out] at C
        refine C.mono ?_
        clear C
        rintro e w10 ⟨v10, rfl, hrow, hX10⟩
        obtain ⟨a10, c10, rfl, hA10⟩ := atoms_of_row hrow
        clear hrow
        have hA9 := hA9.ext hX10
        have hE10 := hE9.trans' hX10
        have hX10 := hX9.trans' hX10
        go_wp2_with fail
        have C := f29_c a9 R2.length c9 R2 A w10 hA9 rfl (by omega)
        rw [HS2.out] at C
        unfold scaleV at C
        rw [if_pos HS2.out] at C
        refine C.mono ?_
        clear C
        rintro e w11 ⟨v11, rfl, hrow, hX11⟩
        obtain ⟨a11, c11, rfl, hA11⟩ := atoms_of_row hrow
        clear hrow
        have hA10 := hA10.ext hX11
        have hE11 := hE10.trans' hX11
        have hX11 := hX10.trans' hX11
        have hM11 := HM5.out.ext hX11
        clear hA8 hA9
        generalize scaleL R1 A = L1 at *
        generalize scaleL R2 A = L2 at *
        go_wp2_with fail
        have C := f19_c a10 aM L1.length c10 M.length cM L1 M w11 hA10 rfl (by omega) hM11 rfl (by omega)
        rw [HP1.out, HQ1.out] at C
        refine C.mono ?_
        clear C
        rintro e w12 ⟨rfl, hX12⟩
        have hA11 := hA11.ext hX12
        have hM11 := hM11.ext hX12
        have hE12 := hE11.trans' hX12
        go_wp2_with fail
        have C := f19_c aM a11 M.length cM L2.length c11 M L2 w12 hM11 rfl (by omega) hA11 rfl (by omega)
        rw [HP2.out, HQ2.out] at C
        refine C.mono ?_
        clear C
        rintro e w13 ⟨rfl, hX13⟩
        have hE13 := hE12.trans' hX13
        go_wp2_with fail
        refine (f18_c _).mono ?_
        rintro e w14 ⟨rfl, hX14⟩
        go_wp2_with fail
        go_ret
        exact ⟨rfl, hE13.trans' hX14⟩
      · have hb : (weighedErr l ws != 0) = true := by simp [h0]
        clear h0
        generalize weighedErr l ws = E at *
        go_wp2_with fail
        refine (f18_c _).mono ?_
        rintro e w9 ⟨rfl, hE9⟩
        go_wp2_with fail
        go_ret
        exact ⟨rfl, hE6.trans' hE9⟩
end Go.Proofs.Ytgnjaapjaglleaa
