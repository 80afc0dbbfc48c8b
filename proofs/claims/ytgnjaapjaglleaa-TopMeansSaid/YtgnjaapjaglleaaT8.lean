/- Contracts of layer 7: Means. -/
import Derived.Test.YtgnjaapjaglleaaP4
namespace Go.Proofs.Ytgnjaapjaglleaa
open Go.RowKit
attribute [local go_sem] GW.cell

/-- what a call hands back that makes a list of atoms and an error -/
def RetAtoms (L : List Atom) (err : Int) (w : World) (e : Ending) (w' : World) : Prop :=
  ∃ v, e = .returned (.tuple #[v, .int .i64 err]) ∧ w'.ownsRow w.heap.size 66 2 v L.length (atomV L) ∧ Ext w w'
theorem retA_nil {w w' : World} {e : Int} (hE : Ext w w') : RetAtoms [] e w (.returned (.tuple #[.slice none 0 0, .int .i64 e])) w' :=
  ⟨_, rfl, World.ownsRow_nil _ _ _ _, hE⟩
theorem ret_vi {x x' : Value} {y y' : Int} (h1 : x = x') (h2 : y = y') : Ending.returned (.tuple #[x, .int .i64 y]) = .returned (.tuple #[x', .int .i64 y']) := by rw [h1, h2]
theorem means_bad {ll : List (List Atom)} {ws : List Int} (h : weighedErr ll ws ≠ 0) : meansL ll ws = [] := by unfold meansL; rw [if_neg h]
theorem means_ok {ll : List (List Atom)} {ws : List Int} (h : weighedErr ll ws = 0) : meansL ll ws = collectL (meansU ll ws) := by unfold meansL; rw [if_pos h]
theorem weighed_loads {ll : List (List Atom)} {ws : List Int} (h : loadsErr ll ≠ 0) : weighedErr ll ws = loadsErr ll := by unfold weighedErr; rw [if_pos h]
theorem weighed_weights {ll : List (List Atom)} {ws : List Int} (h : loadsErr ll = 0) : weighedErr ll ws = weightsErr ll ws := by unfold weighedErr; rw [if_neg (by simpa using h)]

set_option maxRecDepth 20000 in
set_option maxHeartbeats 8000000 in
theorem f24_c (a a2 : Option Addr) (n c n2 c2 : Nat) (l : List (List Atom)) (ws : List Int) (w : World) (hl : Loads w a l) (hn : l.length = n) (hlen : n ≤ 140737488355328) (hin : ∀ j, (hj : j < l.length) → l[j].length ≤ 140737488355328) (hw : Ints w a2 ws) (hn2 : ws.length = n2) (hlen2 : n2 ≤ 140737488355328) :
    Calls Try.prog 24 #[.slice a n c, .slice a2 n2 c2] w (RetAtoms (meansL l ws) (weighedErr l ws) w) := by
  subst hn hn2
  obtain ⟨i0, hi0⟩ := info_parts info3
  have Hi := Lib.hid hi0
  clear hi0
  go_enter Try.func24, Try.ntmps24
  go_wp2_with fail
  refine (f64_c a a2 l.length c ws.length c2 l ws _ hl rfl hlen hin hw rfl hlen2).mono ?_
  rintro e w1 ⟨rfl, hE1⟩
  by_cases hq : weighedErr l ws = 0
  · have Hq := Lib.hid hq
    rw [hq]
    obtain ⟨hok, hws, hwb⟩ := weighed_ok hq
    have hN := unitsN_bd hok
    have h5 := hok.five
    have h1 := hok.pos
    have Hpl := Lib.hid (fun W (h : Loads W a l) (k : Nat) (hk : (k : Int) < totalL (l[0]?.getD [])) => f66_c a l.length c l k W h rfl hok hk)
    have Hwp := Lib.hid (fun k (hk : k < unitsN l) => wp_of (ws := ws) hok hwb hk)
    have h10 : 0 < l.length := h1
    have F0 := Lib.hid (hok.fine h10)
    have e0 : l[0]?.getD [] = l[0] := by rw [List.getElem?_eq_getElem (by omega), Option.getD_some]
    have E0 := Lib.hid e0
    rw [e0] at hN
    rw [e0] at Hpl
    have hN1 : (unitsN l : Int) ≤ totalL l[0] ∧ totalL l[0] ≤ (unitsN l : Int) ∧ unitsN l ≤ 180 := by omega
    have hws1 : ws.length ≤ l.length ∧ l.length ≤ ws.length := by omega
    clear hN hws

    obtain ⟨b0, o0, a0, c0, rfl, hb0, hc0, hi0'⟩ := hl.ext hE1 0 (by omega)
    simp only [Nat.add_zero] at hc0
    have HU := Lib.hid (fun k (hk : k < unitsN l) => meansU_take (ws := ws) hk)
    have HUl := Lib.hid (meansU_length l ws)
    generalize unitsN l = N at *
    have Hcol := Lib.hid (means_ok hq)
    clear hq hok hwb e0
    generalize meansU l ws = U at *
    go_wp2_with fail
    refine (f65_c a0 _ c0 l[0] _ hi0' rfl F0.out).mono ?_
    rintro e w2 ⟨rfl, hE2⟩
    have hE3 := hE1.trans' hE2
    generalize totalL l[0] = T at *
    go_wp2_with fail
    go_loopw [7, 9, 22] (fun v _ i wr => ∃ k : Nat, k ≤ N ∧ i = .int .i64 k ∧ Ext w wr ∧ Hid (wr.ownsRow w.heap.size 3 1 v k ((U.take k).map (.int .i64)))) (fun _ _ i _ => N - (intOf i).toNat)
    case atStart => exact ⟨0, Nat.zero_le _, rfl, hE3, World.ownsRow_nil _ _ _ _⟩
    case round =>
      obtain ⟨k, hk, rfl, hE4, H⟩ := hrel
      by_cases hlt : k < N
      · have hltT : (k : Int) < T := by omega
        have Hd := Lib.hid (HU.out k hlt)
        have hwp := Lib.hid (Hwp.out k hlt)
        go_wp2_with fail
        refine (Hpl.out _ (hl.ext hE4) k hltT).mono ?_
        rintro e w5 ⟨a5, c5, rfl, hI5, hE5⟩
        have HPl := Lib.hid (placesL_length l k)
        generalize placesL l k = P at *
        have hPL : P.length ≤ l.length ∧ l.length ≤ P.length := by have := HPl.out; omega
        have hE6 := hE4.trans' hE5
        have H6 := Lib.hid (row_ext H.out hE5)
        clear H
        go_wp2_with fail
        go_loopw [9, 29] (fun s i wr => ∃ q : Nat, q ≤ P.length ∧ i = .int .i64 q ∧ s = .int .i64 (dotTo ws P q) ∧ Ext w5 wr) (fun _ i _ => P.length - (intOf i).toNat)
        case atStart => exact ⟨0, Nat.zero_le _, rfl, rfl, Below.refl _ _⟩
        case round =>
          obtain ⟨q, hqq, rfl, rfl, hE7⟩ := hrel
          by_cases hlq : q < P.length
          · obtain ⟨b7, o7, rfl, hb7, hc7⟩ := hI5.ext hE7 q hlq
            obtain ⟨b8, o8, rfl, hb8, hc8⟩ := hw.ext (hE6.trans' hE7) q (by omega)
            rw [← gi_at] at hc7 hc8
            have t1 := hwp.out.w q (by omega)
            have t2 := hwp.out.p q (by omega)
            have t3 := (hwp.out.term (j := q) (by omega)).1
            have t4 := (hwp.out.bd (k := q) (by omega)).2.1
            have hqw : q < ws.length := by omega
            have Hs : Hid (dotTo ws P (q + 1) = dotTo ws P q + gi ws q * gi P q) := Lib.hid rfl
            generalize gi ws q = x at *
            generalize gi P q = y at *
            go_wp2_with fail
            go_roundw
            case rel => exact ⟨q + 1, by omega, by go_num, by rw [Hs.out], hE7⟩
            case measure => simp [intOf]; omega
          · obtain rfl : q = l.length := by omega
            have hge : ¬ (l.length : Int) < (P.length : Int) := by omega
            have t4 := (hwp.out.bd (Nat.le_refl l.length)).2.1
            have hE8 := hE6.trans' hE7
            have H8 := Lib.hid (row_ext H6.out hE7)
            obtain ⟨w8, rfl⟩ : ∃ w8 : World, w8 = wr := ⟨_, rfl⟩
            generalize dotTo ws P l.length = x at *
            have Hn := Lib.hid (reads_ints (ints_new1 w8 x 3 w8.heap.size rfl))
            have hszx := hE8.size
            go_wp2_with (at_builtin; refine wpList_append_any _ rfl (.tmp 43) (.tmp 45) 30 rfl w.heap.size 3 i0 (.int .i64 0) 1 8 Try.underlying30 Hi.out.1 Hi.out.2.1 Hi.out.2.2.1 Hi.out.2.2.2 rfl (by omega) _ k _ rfl (Lib.hid (World.ownsRow.alloc H8.out _)).out _ (some ⟨w8.heap.size, 0, none⟩) 1 1 [.int .i64 x] rfl Hn.out (by simp [Value.oneCell']) (by unfold maxLen; omega) (by omega) (by simp; omega) ?_; intro v' w9 hown hgrow hat; have hE9 := ext_append hE8 H8.out (Nat.le_refl _) hgrow; have H9 : Hid (w9.ownsRow w.heap.size 3 1 v' (k + 1) ((U.take (k + 1)).map (.int .i64))) := (by rw [Hd.out, List.map_append]; exact hown); clear hat hgrow hown)
            go_roundw
            case rel => exact ⟨k + 1, by omega, by go_num, hE9, H9⟩
            case measure => simp [intOf]; omega
      · obtain rfl : k = N := by omega
        have hge : ¬ (k : Int) < T := by omega
        have H2 := H.out
        rw [List.take_of_length_le (by rw [HUl.out]; exact Nat.le_refl _)] at H2
        obtain ⟨ad, cp, rfl, hI⟩ := ints_of_row H2
        have hUl : U.length ≤ 180 := by have := HUl.out; omega
        clear H H2
        go_wp2_with fail
        refine (f67_c ad U.length cp U _ hI rfl (by omega)).mono ?_
        rintro e w9 ⟨v9, rfl, hrow, hE9⟩
        obtain ⟨av, cv, rfl⟩ := slice_form hrow
        have Hrow := Lib.hid hrow
        clear hrow
        go_wp2_with fail
        go_ret2
        exact ⟨_, ret_vi rfl Hq.out.symm, by rw [Hcol.out]; exact row_base Hrow.out hE4.size, hE4.trans' hE9⟩
  · have hb : (weighedErr l ws != 0) = true := by simp [hq]
    have Hq := Lib.hid (means_bad hq)
    clear hq
    go_wp2_with fail
    go_ret2
    exact ⟨_, rfl, by rw [Hq.out]; exact World.ownsRow_nil _ _ _ _, hE1⟩

set_option maxRecDepth 20000 in
set_option maxHeartbeats 8000000 in
theorem f25_c (a a2 : Option Addr) (n c n2 c2 : Nat) (l : List (List Atom)) (ws : List Int) (w : World) (hl : Loads w a l) (hn : l.length = n) (hlen : n ≤ 140737488355328) (hin : ∀ j, (hj : j < l.length) → l[j].length ≤ 140737488355328) (hw : Ints w a2 ws) (hn2 : ws.length = n2) (hlen2 : n2 ≤ 140737488355328) :
    Calls Try.prog 25 #[.slice a n c, .slice a2 n2 c2] w (RetAtoms (meansL l ws) (weighedErr l ws) w) := by
  subst hn hn2
  obtain ⟨i0, hi0⟩ := info_parts info3
  have Hi := Lib.hid hi0
  clear hi0
  go_enter Try.func25, Try.ntmps25
  go_wp2_with fail
  refine (f48_c a l.length c l _ hl rfl hlen hin).mono ?_
  rintro e w1 ⟨rfl, hE1⟩
  by_cases hq0 : loadsErr l = 0
  · have Hq0 := Lib.hid hq0
    rw [hq0]
    have Hww := Lib.hid (weighed_weights (ws := ws) hq0)
    clear hq0
    go_wp2_with fail
    refine (f68_c a a2 l.length c ws.length c2 l ws _ rfl hlen (hw.ext hE1) rfl hlen2).mono ?_
    rintro e w2 ⟨rfl, hE2⟩
    have hE2 := hE1.trans' hE2
    rw [← Hww.out]
    by_cases hq : weighedErr l ws = 0
    · have Hq := Lib.hid hq
      rw [hq]
      obtain ⟨hok, hws, hwb⟩ := weighed_ok hq
      have hN := unitsN_bd hok
      have h5 := hok.five
      have h1 := hok.pos
      have Hpl := Lib.hid (fun W (h : Loads W a l) (k : Nat) (hk : (k : Int) < totalL (l[0]?.getD [])) => f70_c a l.length c l k W h rfl hok hk)
      have Hwp := Lib.hid (fun k (hk : k < unitsN l) => wp_of (ws := ws) hok hwb hk)
      have h10 : 0 < l.length := h1
      have F0 := Lib.hid (hok.fine h10)
      have e0 : l[0]?.getD [] = l[0] := by rw [List.getElem?_eq_getElem (by omega), Option.getD_some]
      have E0 := Lib.hid e0
      rw [e0] at hN
      rw [e0] at Hpl
      have hN1 : (unitsN l : Int) ≤ totalL l[0] ∧ totalL l[0] ≤ (unitsN l : Int) ∧ unitsN l ≤ 180 := by omega
      have hws1 : ws.length ≤ l.length ∧ l.length ≤ ws.length := by omega
      clear hN hws

      have HU := Lib.hid (fun k (hk : k < unitsN l) => meansU_take (ws := ws) hk)
      have HUl := Lib.hid (meansU_length l ws)
      generalize unitsN l = N at *
      have Hcol := Lib.hid (means_ok hq)
      clear hq hok hwb e0
      generalize meansU l ws = U at *
      have hTb : totalL l[0] ≤ 180 := by omega
      go_wp2_with fail
      go_loopw [8, 9, 10, 11, 12] (fun v i _ _ _ wr => ∃ k : Nat, k ≤ N ∧ i = .int .i64 k ∧ Ext w wr ∧ Hid (wr.ownsRow w.heap.size 3 1 v k ((U.take k).map (.int .i64)))) (fun _ i _ _ _ _ => N - (intOf i).toNat)
      case atStart => exact ⟨0, Nat.zero_le _, rfl, hE2, World.ownsRow_nil _ _ _ _⟩
      case round =>
        obtain ⟨k, hk, rfl, hE4, H⟩ := hrel
        obtain ⟨b0, o0, a0, c0, rfl, hb0, hc0, hi0'⟩ := hl.ext hE4 0 (by omega)
        simp only [Nat.add_zero] at hc0
        by_cases hlt : k < N
        · have hltT : (k : Int) < totalL l[0] := by omega
          have Hd := Lib.hid (HU.out k hlt)
          have hwp := Lib.hid (Hwp.out k hlt)
          go_wp2_with fail
          refine (f69_c a0 _ c0 l[0] _ hi0' rfl F0.out).mono ?_
          rintro e w3 ⟨rfl, hE3⟩
          have hE4 := hE4.trans' hE3
          have H3 := Lib.hid (row_ext H.out hE3)
          clear H
          go_wp2_with fail
          refine (Hpl.out _ (hl.ext hE4) k hltT).mono ?_
          rintro e w5 ⟨a5, c5, rfl, hI5, hE5⟩
          have HPl := Lib.hid (placesL_length l k)
          generalize placesL l k = P at *
          have hPL : P.length ≤ l.length ∧ l.length ≤ P.length := by have := HPl.out; omega
          have hE6 := hE4.trans' hE5
          have H6 := Lib.hid (row_ext H3.out hE5)
          clear H3
          go_wp2_with fail
          go_loopw [11, 12] (fun s i wr => ∃ q : Nat, q ≤ P.length ∧ i = .int .i64 q ∧ s = .int .i64 (dotTo ws P q) ∧ Ext w5 wr) (fun _ i _ => P.length - (intOf i).toNat)
          case atStart => exact ⟨0, Nat.zero_le _, rfl, rfl, Below.refl _ _⟩
          case round =>
            obtain ⟨q, hqq, rfl, rfl, hE7⟩ := hrel
            by_cases hlq : q < P.length
            · obtain ⟨b7, o7, rfl, hb7, hc7⟩ := hI5.ext hE7 q hlq
              obtain ⟨b8, o8, rfl, hb8, hc8⟩ := hw.ext (hE6.trans' hE7) q (by omega)
              rw [← gi_at] at hc7 hc8
              have t1 := hwp.out.w q (by omega)
              have t2 := hwp.out.p q (by omega)
              have t3 := (hwp.out.term (j := q) (by omega)).1
              have t4 := (hwp.out.bd (k := q) (by omega)).2.1
              have hqw : q < ws.length := by omega
              have Hs : Hid (dotTo ws P (q + 1) = dotTo ws P q + gi ws q * gi P q) := Lib.hid rfl
              generalize gi ws q = x at *
              generalize gi P q = y at *
              have e1 : IntKind.i64.wrap (x * y) = x * y := IntWalk.i64_in _ (by omega)
              have e2 : IntKind.i64.wrap (dotTo ws P q + x * y) = dotTo ws P q + x * y := IntWalk.i64_in _ (by omega)
              go_wp2_with fail
              refine wp_region_ext (by kernel_rfl) (by kernel_rfl) ?_
              repeat (go_big_quiet_step (fail))
              refine wpQuiet_nil ?_
              intro w8 hE8
              clear e1 e2
              go_wp2_with fail
              go_roundw
              case rel => exact ⟨q + 1, by omega, by go_num, by rw [Hs.out], hE7.trans' hE8⟩
              case measure => simp [intOf]; omega
            · obtain rfl : q = l.length := by omega
              have hge : ¬ (l.length : Int) < (P.length : Int) := by omega
              have t4 := (hwp.out.bd (Nat.le_refl l.length)).2.1
              have hE8 := hE6.trans' hE7
              have H8 := Lib.hid (row_ext H6.out hE7)
              obtain ⟨w8, rfl⟩ : ∃ w8 : World, w8 = wr := ⟨_, rfl⟩
              generalize dotTo ws P l.length = x at *
              have Hn := Lib.hid (reads_ints (ints_new1 w8 x 3 w8.heap.size rfl))
              have hszx := hE8.size
              go_wp2_with (at_builtin; refine wpList_append_any _ rfl (.tmp 52) (.tmp 54) 30 rfl w.heap.size 3 i0 (.int .i64 0) 1 8 Try.underlying30 Hi.out.1 Hi.out.2.1 Hi.out.2.2.1 Hi.out.2.2.2 rfl (by omega) _ k _ rfl (Lib.hid (World.ownsRow.alloc H8.out _)).out _ (some ⟨w8.heap.size, 0, none⟩) 1 1 [.int .i64 x] rfl Hn.out (by simp [Value.oneCell']) (by unfold maxLen; omega) (by omega) (by simp; omega) ?_; intro v' w9 hown hgrow hat; have hE9 := ext_append hE8 H8.out (Nat.le_refl _) hgrow; have H9 : Hid (w9.ownsRow w.heap.size 3 1 v' (k + 1) ((U.take (k + 1)).map (.int .i64))) := (by rw [Hd.out, List.map_append]; exact hown); clear hat hgrow hown)
              go_roundw
              case rel => exact ⟨k + 1, by omega, by go_num, hE9, H9⟩
              case measure => simp [intOf]; omega
        · obtain rfl : k = N := by omega
          have hge : ¬ (k : Int) < totalL l[0] := by omega
          go_wp2_with fail
          refine (f69_c a0 _ c0 l[0] _ hi0' rfl F0.out).mono ?_
          rintro e w3 ⟨rfl, hE3⟩
          have hE4 := hE4.trans' hE3
          have H2 := row_ext H.out hE3
          rw [List.take_of_length_le (by rw [HUl.out]; exact Nat.le_refl _)] at H2
          obtain ⟨ad, cp, rfl, hI⟩ := ints_of_row H2
          have hUl : U.length ≤ 180 := by have := HUl.out; omega
          clear H H2
          go_wp2_with fail
          refine (f71_c ad U.length cp U _ hI rfl (by omega)).mono ?_
          rintro e w9 ⟨v9, rfl, hrow, hE9⟩
          obtain ⟨av, cv, rfl⟩ := slice_form hrow
          have Hrow := Lib.hid hrow
          clear hrow
          go_wp2_with fail
          go_ret2
          exact ⟨_, ret_vi rfl Hq.out.symm, by rw [Hcol.out]; exact row_base Hrow.out hE4.size, hE4.trans' hE9⟩
    · have hb : (weighedErr l ws != 0) = true := by simp [hq]
      have Hq := Lib.hid (means_bad hq)
      clear hq
      go_wp2_with fail
      go_ret2
      exact ⟨_, rfl, by rw [Hq.out]; exact World.ownsRow_nil _ _ _ _, hE2⟩
  · have hb : (loadsErr l != 0) = true := by simp [hq0]
    have Hww := Lib.hid (weighed_loads (ws := ws) hq0)
    have Hq := Lib.hid (means_bad (ll := l) (ws := ws) (by rw [weighed_loads hq0]; exact hq0))
    clear hq0
    go_wp2_with fail
    go_ret2
    exact ⟨_, ret_vi rfl Hww.out.symm, by rw [Hq.out]; exact World.ownsRow_nil _ _ _ _, hE1⟩

end Go.Proofs.Ytgnjaapjaglleaa
