/- Contracts of the line's reference: the ordered moves. -/
import Derived.Test.YtfhgnmijigdlmaaT18
namespace Go.Proofs.Ytfhgnmijigdlmaa
open Go.RowKit
attribute [local go_sem] GW.cell
theorem und73 : Try.prog.underlying 73 = some (.struct (Try.prog.fieldsOf 73)) := by kernel_rfl
theorem stood73 : Try.prog.stoodInHeld 73 = false := by kernel_rfl
theorem guard73 : Try.prog.eqGuardType Try.prog.depth 73 = false := by kernel_rfl
theorem neq_move (w : World) (x y z : Int) : (binOp .neq 73 (.agg #[.int .i64 x, .int .i64 y, .int .i64 z]) (.agg #[.int .i64 x, .int .i64 y, .int .i64 z])).run Try.prog w = .ok (.bool false) w := by
  simp only [run_neq_struct, run_equalIn_agg _ _ _ _ _ und73 stood73]
  have hf : (Try.prog.fieldsOf 73).toList = (match Try.prog.underlying 73 with | some (.struct fs) => fs.toList | _ => []) := by kernel_rfl
  rw [hf, Try.underlying73]
  simp [Op.eqFields, go_sem]
set_option maxHeartbeats 2000000 in
theorem f50_eq (a1 a2 : Option Addr) (n c n2 c2 : Nat) (l : List Move) (w : World) (hl : Moves w a1 l) (hn : l.length = n) (hlen : n ≤ 1000000) (hm : Moves w a2 l) (hn2 : l.length = n2) :
    Calls Try.prog 50 #[.slice a1 n c, .slice a2 n2 c2] w fun e w' => e = .returned (.bool true) ∧ Ext w w' := by
  subst hn hn2
  go_enter Try.func50, Try.ntmps50
  go_wp2_with fail
  go_loopw [5] (fun i wr => ∃ k : Nat, k ≤ l.length ∧ i = .int .i64 k ∧ Ext w wr) (fun i _ => l.length - (intOf i).toNat)
  case atStart => exact ⟨0, Nat.zero_le _, rfl, Below.refl _ _⟩
  case round =>
    obtain ⟨k, hk, rfl, hE⟩ := hrel
    by_cases hlt : k < l.length
    · obtain ⟨b1, o1, rfl, hb1, x1, y1, z1⟩ := hl.ext hE k hlt
      obtain ⟨b2, o2, rfl, hb2, x2, y2, z2⟩ := hm.ext hE k hlt
      generalize l[k].fr = ff at *
      generalize l[k].to = tt at *
      generalize l[k].m = mm at *
      have hg := guard73
      have hq := fun W => neq_move W ff tt mm
      go_wp2_with fail
      refine wp_region_ext (by kernel_rfl) (by kernel_rfl) ?_
      repeat (go_big_quiet_step (fail))
      refine wpQuiet_nil ?_
      intro w1 hE1
      clear hq hg
      go_wp2_with fail
      go_roundw
      case rel => exact ⟨k + 1, by omega, by go_num, hE.trans' hE1⟩
      case measure => simp [intOf]; omega
    · obtain rfl : k = l.length := by omega
      go_wp2_with fail
      go_ret
      exact ⟨rfl, hE⟩
/-! the reference's ordered moves -/
theorem addM_hit {M : List Move} {n : Nat} (hn : M.length = n + 1) {p q : Int} (h : M[n].fr = p ∧ M[n].to = q) : addM M (p, q) = M.set n { M[n] with m := M[n].m + 1 } := by
  have e : M = M.take n ++ [M[n]] := by
    conv => lhs; rw [← List.take_length (l := M), hn]
    rw [List.take_succ_eq_append_getElem (by omega)]
  have hl : (M.take n).length = n := by rw [List.length_take]; omega
  generalize M.take n = I at *
  generalize M[n] = x at *
  subst e
  unfold addM
  simp only [List.getLast?_append, List.getLast?_singleton, Option.some_or]
  rw [if_pos h, List.dropLast_concat, List.set_append_right _ _ (by omega), hl]
  simp
theorem addM_miss {M : List Move} {p q : Int} (h : ∀ n, (hn : M.length = n + 1) → ¬ (M[n].fr = p ∧ M[n].to = q)) : addM M (p, q) = M ++ [⟨p, q, 1⟩] := by
  refine addM_new fun x hx => ?_
  have hM : M ≠ [] := by intro e; subst e; simp at hx
  obtain ⟨n, hn⟩ : ∃ n, M.length = n + 1 := ⟨M.length - 1, by have := List.length_pos_iff.2 hM; omega⟩
  have h1 := h n hn
  rw [List.getLast?_eq_getElem?, hn, Nat.add_sub_cancel, List.getElem?_eq_getElem (by omega)] at hx
  have hx : M[n] = x := by simpa using hx
  rw [hx] at h1
  by_cases c : x.fr = p
  · exact .inr fun c2 => h1 ⟨c, c2⟩
  · exact .inl c
theorem runs_take {Z : List (Int × Int)} {k : Nat} (hk : k < Z.length) : runs (Z.take (k + 1)) = addM (runs (Z.take k)) Z[k] := by
  unfold runs; rw [List.take_succ_eq_append_getElem hk, List.foldl_append]; rfl
theorem runs_bd (Z : List (Int × Int)) : ∀ k, k ≤ Z.length → (runs (Z.take k)).length ≤ k ∧ ∀ x ∈ runs (Z.take k), 0 ≤ x.m ∧ x.m ≤ k
  | 0, _ => by simp [runs]
  | k + 1, hk => by
    obtain ⟨i1, i2⟩ := runs_bd Z k (by omega)
    rw [runs_take (by omega)]
    generalize runs (Z.take k) = M at *
    by_cases h : ∃ n, ∃ (hn : M.length = n + 1), M[n].fr = (Z[k]).1 ∧ M[n].to = (Z[k]).2
    · obtain ⟨n, hn, h1⟩ := h
      rw [show Z[k] = ((Z[k]).1, (Z[k]).2) from rfl, addM_hit hn h1]
      refine ⟨by rw [List.length_set]; omega, fun x hx => ?_⟩
      rcases List.mem_or_eq_of_mem_set hx with hx | rfl
      · have := i2 x hx; omega
      · have := i2 M[n] (List.getElem_mem _); simp only; omega
    · rw [show Z[k] = ((Z[k]).1, (Z[k]).2) from rfl, addM_miss fun n hn h1 => h ⟨n, hn, h1⟩]
      refine ⟨by rw [List.length_append]; simp; omega, fun x hx => ?_⟩
      rcases List.mem_append.1 hx with hx | hx
      · have := i2 x hx; omega
      · simp at hx; subst hx; simp only; omega

set_option maxRecDepth 20000 in
set_option maxHeartbeats 8000000 in
theorem f49_c (a1 a2 : Option Addr) (n c n2 c2 : Nat) (a b : List Atom) (w : World) (hl : Atoms w a1 a) (hn : a.length = n) (hlen : n ≤ 140737488355328) (hm : Atoms w a2 b) (hn2 : b.length = n2) (hlen2 : n2 ≤ 140737488355328) :
    Calls Try.prog 49 #[.slice a1 n c, .slice a2 n2 c2] w (RetMoves (ordV a b) (linePair a b) w) := by
  have C1 := f74_c a1 a2 n c n2 c2 a b w hl hn hlen hm hn2 hlen2
  by_cases hp : linePair a b = 0
  case neg =>
    have hb : (linePair a b != 0) = true := by simp [hp]
    rw [show ordV a b = [] by unfold ordV; rw [if_neg hp]]
    have C1 := Lib.hid C1
    clear hp hn hn2
    generalize linePair a b = E at *
    go_enter Try.func49, Try.ntmps49
    go_wp2_with fail
    refine C1.out.mono ?_
    rintro e w1 ⟨rfl, hE1⟩
    go_wp2_with fail
    go_ret2
    exact retM_nil hE1
  obtain ⟨v1, v2, -⟩ := linePair_ok hp
  have C3 := Lib.hid (fun W (h : Ext w W) => f82_c a1 n c a W (hl.ext h) hn (fine_load v1))
  have C4 := Lib.hid (fun W (h : Ext w W) => f82_c a2 n2 c2 b W (hm.ext h) hn2 (fine_load v2))
  have s1 := units_small v1
  have hUV := pair_len hp
  rw [show ordV a b = runs ((unitsL a).zip (unitsL b)) by unfold ordV; rw [if_pos hp]; rfl]
  rw [hp] at C1 ⊢
  have C1 := Lib.hid C1
  clear hp hn hn2 v1 v2
  generalize unitsL a = U at *
  generalize unitsL b = V at *
  have hZ1 : Hid ((U.zip V).length = U.length) := Lib.hid (by rw [List.length_zip]; omega)
  have hZ2 : Hid (∀ k, (hk : k < (U.zip V).length) → (U.zip V)[k] = (gi U k, gi V k)) := Lib.hid (fun k hk => by
    rw [List.length_zip] at hk
    rw [List.getElem_zip, gi_at, gi_at, List.getElem?_eq_getElem (by omega), List.getElem?_eq_getElem (by omega)]; rfl)
  have hUV2 : U.length ≤ V.length ∧ V.length ≤ U.length := by omega
  clear hUV
  generalize U.zip V = Z at *
  have HB := Lib.hid (runs_bd Z)
  have Hall : Hid (Z.take U.length = Z) := Lib.hid (by rw [← hZ1.out, List.take_length])
  obtain ⟨i0, hi⟩ := info_parts info73
  have Hi := Lib.hid hi
  clear hi
  go_enter Try.func49, Try.ntmps49
  go_wp2_with fail
  refine C1.out.mono ?_
  rintro e w1 ⟨rfl, hE1⟩
  go_wp2_with fail
  refine (C3.out _ hE1).mono ?_
  rintro e w2 ⟨aU, cU, rfl, hIU, hX2⟩
  have hE2 := hE1.trans' hX2
  go_wp2_with fail
  refine (C4.out _ hE2).mono ?_
  rintro e w3 ⟨aV, cV, rfl, hIV, hX3⟩
  have hE3 := hE2.trans' hX3
  have HIU := Lib.hid (hIU.ext hX3)
  have HIV := Lib.hid hIV
  clear hIU hIV hX2 hX3
  go_wp2_with fail
  go_loopw [9, 10, 11] (fun v i _ wr => ∃ k : Nat, k ≤ U.length ∧ i = .int .i64 k ∧ Ext w3 wr ∧ Hid (wr.ownsRow w3.heap.size 73 3 v (runs (Z.take k)).length (moveV (runs (Z.take k))))) (fun _ i _ _ => U.length - (intOf i).toNat)
  case atStart => exact ⟨0, Nat.zero_le _, rfl, Below.refl _ _, World.ownsRow_nil _ _ _ _⟩
  case round =>
    obtain ⟨k, hk, rfl, hX2, H⟩ := hrel
    by_cases hlt : k < U.length
    case neg =>
      obtain rfl : k = U.length := by omega
      have H2 := H.out
      rw [Hall.out] at H2
      obtain ⟨aR, cR, e, hM⟩ := moves_of_row H2
      subst e
      have hf := Lib.hid (show RetMoves (runs Z) 0 w (.returned (.tuple #[.slice aR (runs Z).length cR, .int .i64 0])) wr from ⟨aR, cR, rfl, hM, hE3.trans' hX2⟩)
      clear H H2 hM
      go_wp2_with fail
      go_ret2
      exact hf.out
    have hkZ : k < Z.length := by have := hZ1.out; omega
    obtain ⟨bu, ou, rfl, hbu, hcu⟩ := HIU.out.ext hX2 k hlt
    obtain ⟨bv, ov, rfl, hbv, hcv⟩ := HIV.out.ext hX2 k (by omega)
    rw [← gi_at] at hcu hcv
    have Hstep : Hid (runs (Z.take (k + 1)) = addM (runs (Z.take k)) (gi U k, gi V k)) := Lib.hid (by rw [runs_take hkZ, hZ2.out k hkZ])
    obtain ⟨hb1, hb2⟩ := HB.out k (by omega)
    have Hb2 := Lib.hid hb2
    clear hb2
    have hkV : k < V.length := by omega
    generalize gi U k = uu at *
    generalize gi V k = vv at *
    obtain ⟨M, hM⟩ : ∃ M, runs (Z.take k) = M := ⟨_, rfl⟩
    rw [hM] at H Hstep hb1 Hb2
    clear hM
    obtain ⟨av, cv, e⟩ := slice_form H.out
    subst e
    rcases Nat.eq_zero_or_pos M.length with hM0 | hMp
    · have hMn : M = [] := List.eq_nil_of_length_eq_zero hM0
      subst hMn
      have HN : Hid (runs (Z.take (k + 1)) = [] ++ [⟨uu, vv, 1⟩]) := Lib.hid (by rw [Hstep.out, addM_miss (fun n hn => by simp at hn)])
      clear Hstep hM0
      go_wp2_with fail
      refine wp_region_ext (by kernel_rfl) (by kernel_rfl) ?_
      repeat (go_big_quiet_step (fail))
      refine wpQuiet_nil ?_
      intro w4 hX4
      have H4 := Lib.hid (row_ext H.out hX4)
      have hcu4 := (hX4.cell' hbu).trans hcu
      have hcv4 := (hX4.cell' hbv).trans hcv
      have hbu4 := Nat.lt_of_lt_of_le hbu hX4.size
      have hbv4 := Nat.lt_of_lt_of_le hbv hX4.size
      have hX4 := hX2.trans' hX4
      clear hcu hcv
      go_wp2_with fail
      refine wp_region_ext_tail1 10 (by kernel_rfl) (by kernel_rfl) (by rfl) (by rfl) (fun _ _ _ h => h) ?_
      simp only [List.take_succ_cons, List.take_zero, List.drop_succ_cons, List.drop_zero]
      go_simp
      repeat (go_big_quiet_step (fail))
      refine wpQuiet_nil ?_
      intro w5 hX5
      have H5 := Lib.hid (row_ext H4.out hX5)
      have hX5 := hX4.trans' hX5
      have hsz := hX5.size
      have Hn := Lib.hid (reads_moves (moves_new1 w5 ⟨uu, vv, 1⟩ 73))
      go_wp2_with (at_builtin; refine wpList_append_any _ rfl (.tmp 65) (.tmp 75) 42 rfl w3.heap.size 73 i0 _ 3 24 Try.underlying42 Hi.out.1 Hi.out.2.1 Hi.out.2.2.1 Hi.out.2.2.2 rfl (by omega) _ 0 _ rfl (H5.out.alloc _) _ (some ⟨w5.heap.size, 0, none⟩) 1 1 (moveV [⟨uu, vv, 1⟩]) rfl Hn.out (moveV_one_cell _) (by unfold maxLen; omega) (by omega) (by simp; omega) ?_; intro v' w6 hown hgrow hat; have hX6 := ext_append hX5 H5.out (Nat.le_refl _) hgrow; rw [← moveV_append] at hown; have H6 : Hid (w6.ownsRow w3.heap.size 73 3 v' (runs (Z.take (k + 1))).length (moveV (runs (Z.take (k + 1))))) := (by rw [HN.out, List.length_append]; exact hown); clear hat hgrow hown)
      go_roundw
      case rel => exact ⟨k + 1, by omega, by go_num, hX6, H6⟩
      case measure => simp [intOf]; omega
    obtain ⟨q, hq⟩ : ∃ q, M.length = q + 1 := ⟨M.length - 1, by omega⟩
    obtain ⟨g, cap, he, hg1, hg2⟩ := ownsRow_form H.out (by omega)
    simp only [Value.slice.injEq, true_and] at he
    obtain ⟨rfl, rfl⟩ := he
    have hqM : q < M.length := by omega
    obtain ⟨x0, x1, x2⟩ := moveV_at M q hqM
    have c0 := (H.out.cellAt (q * 3) (by omega)).trans x0
    have c1 := (H.out.cellAt (q * 3 + 1) (by omega)).trans x1
    have cm := (H.out.cellAt (q * 3 + 2) (by omega)).trans x2
    have fz := H.out.frozenAt (q * 3 + 2)
    have hmb := Hb2.out _ (List.getElem_mem hqM)
    have Hset := Lib.hid (moveV_set2 M q hqM)
    have Hq := Lib.hid hq
    have hq1 : M.length ≤ q + 1 ∧ q + 1 ≤ M.length := by omega
    by_cases hh : M[q].fr = uu ∧ M[q].to = vv
    · obtain ⟨rfl, rfl⟩ := hh
      have HN : Hid (runs (Z.take (k + 1)) = M.set q { M[q] with m := M[q].m + 1 }) := Lib.hid (by rw [Hstep.out, addM_hit hq ⟨rfl, rfl⟩])
      rw [hq] at H ⊢
      clear Hstep x0 x1 x2 hq hMp
      have HS : Hid (M.set q { M[q] with m := M[q].m + 1 } = M.set q ⟨M[q].fr, M[q].to, M[q].m + 1⟩) := Lib.hid rfl
      have hst := Hset.out (M[q].m + 1)
      have Hst := Lib.hid hst
      have Hl : Hid ((M.set q { M[q] with m := M[q].m + 1 }).length = q + 1) := Lib.hid (by rw [List.length_set, Hq.out])
      generalize M.set q { M[q] with m := M[q].m + 1 } = MS at *
      generalize M[q].fr = ff at *
      generalize M[q].to = tt at *
      generalize M[q].m = mm at *
      have hgw := hg2
      go_wp2_with fail
      refine wp_region_ext (by kernel_rfl) (by kernel_rfl) ?_
      repeat (go_big_quiet_step (fail))
      refine wpQuiet_nil ?_
      intro w4 hX4
      have H4 := Lib.hid (row_ext H.out hX4)
      have hcu4 := (hX4.cell' hbu).trans hcu
      have hcv4 := (hX4.cell' hbv).trans hcv
      have hbu4 := Nat.lt_of_lt_of_le hbu hX4.size
      have hbv4 := Nat.lt_of_lt_of_le hbv hX4.size
      have hX4 := hX2.trans' hX4
      have cm := (‹Ext wr w4›.cell' hgw).trans cm
      have fz := H4.out.frozenAt (q * 3 + 2)
      have hst2 := (H4.out.stored (q * 3 + 2) (.int .i64 (mm + 1))).1
      rw [Hst.out] at hst2
      have H5 : Hid ((w4.setCell ⟨g, q * 3 + 2, none⟩ (.int .i64 (mm + 1))).ownsRow w3.heap.size 73 3 (.slice (some ⟨g, 0, none⟩) (q + 1) cv) (runs (Z.take (k + 1))).length (moveV (runs (Z.take (k + 1))))) := Lib.hid (by rw [HN.out, Hl.out]; exact hst2)
      have hX5 := hX4.setCell (p := ⟨g, q * 3 + 2, none⟩) hg1 (.int .i64 (mm + 1))
      clear hst2 hst Hst c0 c1 hcu hcv
      go_wp2_with fail
      go_roundw
      case rel => exact ⟨k + 1, by omega, by go_num, hX5, H5⟩
      case measure => simp [intOf]; omega
    have HN : Hid (runs (Z.take (k + 1)) = M ++ [⟨uu, vv, 1⟩]) := Lib.hid (by
      rw [Hstep.out, addM_miss]
      intro n hn h
      obtain rfl : n = q := by omega
      exact hh h)
    rw [hq] at H ⊢
    have hgw := hg2
    clear Hstep x0 x1 x2 hq hMp Hset
    by_cases hf : M[q].fr = uu
    · have d1 : (M[q].to == vv) = false := by simp; exact fun h => hh ⟨hf, h⟩
      subst hf
      clear hh
      generalize M[q].fr = uu at *
      generalize M[q].to = tt at *
      generalize M[q].m = mm at *
      go_wp2_with fail
      refine wp_region_ext (by kernel_rfl) (by kernel_rfl) ?_
      repeat (go_big_quiet_step (fail))
      refine wpQuiet_nil ?_
      intro w4 hX4
      have H4 := Lib.hid (row_ext H.out hX4)
      have hcu4 := (hX4.cell' hbu).trans hcu
      have hcv4 := (hX4.cell' hbv).trans hcv
      have hbu4 := Nat.lt_of_lt_of_le hbu hX4.size
      have hbv4 := Nat.lt_of_lt_of_le hbv hX4.size
      have hX4 := hX2.trans' hX4
      clear hcu hcv
      go_wp2_with fail
      refine wp_region_ext_tail1 10 (by kernel_rfl) (by kernel_rfl) (by rfl) (by rfl) (fun _ _ _ h => h) ?_
      simp only [List.take_succ_cons, List.take_zero, List.drop_succ_cons, List.drop_zero]
      go_simp
      repeat (go_big_quiet_step (fail))
      refine wpQuiet_nil ?_
      intro w5 hX5
      have H5 := Lib.hid (row_ext H4.out hX5)
      have hX5 := hX4.trans' hX5
      have hsz := hX5.size
      have Hn := Lib.hid (reads_moves (moves_new1 w5 ⟨uu, vv, 1⟩ 73))
      go_wp2_with (at_builtin; refine wpList_append_any _ rfl (.tmp 65) (.tmp 75) 42 rfl w3.heap.size 73 i0 _ 3 24 Try.underlying42 Hi.out.1 Hi.out.2.1 Hi.out.2.2.1 Hi.out.2.2.2 rfl (by omega) _ (q + 1) _ rfl (H5.out.alloc _) _ (some ⟨w5.heap.size, 0, none⟩) 1 1 (moveV [⟨uu, vv, 1⟩]) rfl Hn.out (moveV_one_cell _) (by unfold maxLen; omega) (by omega) (by simp; omega) ?_; intro v' w6 hown hgrow hat; have hX6 := ext_append hX5 H5.out (Nat.le_refl _) hgrow; rw [← moveV_append] at hown; have H6 : Hid (w6.ownsRow w3.heap.size 73 3 v' (runs (Z.take (k + 1))).length (moveV (runs (Z.take (k + 1))))) := (by rw [HN.out, List.length_append, Hq.out]; exact hown); clear hat hgrow hown)
      go_roundw
      case rel => exact ⟨k + 1, by omega, by go_num, hX6, H6⟩
      case measure => simp [intOf]; omega
    · have d1 : (M[q].fr == uu) = false := by simpa using hf
      clear hh hf
      generalize M[q].fr = ff at *
      generalize M[q].to = tt at *
      generalize M[q].m = mm at *
      go_wp2_with fail
      refine wp_region_ext (by kernel_rfl) (by kernel_rfl) ?_
      repeat (go_big_quiet_step (fail))
      refine wpQuiet_nil ?_
      intro w4 hX4
      have H4 := Lib.hid (row_ext H.out hX4)
      have hcu4 := (hX4.cell' hbu).trans hcu
      have hcv4 := (hX4.cell' hbv).trans hcv
      have hbu4 := Nat.lt_of_lt_of_le hbu hX4.size
      have hbv4 := Nat.lt_of_lt_of_le hbv hX4.size
      have hX4 := hX2.trans' hX4
      clear hcu hcv
      go_wp2_with fail
      refine wp_region_ext_tail1 10 (by kernel_rfl) (by kernel_rfl) (by rfl) (by rfl) (fun _ _ _ h => h) ?_
      simp only [List.take_succ_cons, List.take_zero, List.drop_succ_cons, List.drop_zero]
      go_simp
      repeat (go_big_quiet_step (fail))
      refine wpQuiet_nil ?_
      intro w5 hX5
      have H5 := Lib.hid (row_ext H4.out hX5)
      have hX5 := hX4.trans' hX5
      have hsz := hX5.size
      have Hn := Lib.hid (reads_moves (moves_new1 w5 ⟨uu, vv, 1⟩ 73))
      go_wp2_with (at_builtin; refine wpList_append_any _ rfl (.tmp 65) (.tmp 75) 42 rfl w3.heap.size 73 i0 _ 3 24 Try.underlying42 Hi.out.1 Hi.out.2.1 Hi.out.2.2.1 Hi.out.2.2.2 rfl (by omega) _ (q + 1) _ rfl (H5.out.alloc _) _ (some ⟨w5.heap.size, 0, none⟩) 1 1 (moveV [⟨uu, vv, 1⟩]) rfl Hn.out (moveV_one_cell _) (by unfold maxLen; omega) (by omega) (by simp; omega) ?_; intro v' w6 hown hgrow hat; have hX6 := ext_append hX5 H5.out (Nat.le_refl _) hgrow; rw [← moveV_append] at hown; have H6 : Hid (w6.ownsRow w3.heap.size 73 3 v' (runs (Z.take (k + 1))).length (moveV (runs (Z.take (k + 1))))) := (by rw [HN.out, List.length_append, Hq.out]; exact hown); clear hat hgrow hown)
      go_roundw
      case rel => exact ⟨k + 1, by omega, by go_num, hX6, H6⟩
      case measure => simp [intOf]; omega
end Go.Proofs.Ytfhgnmijigdlmaa
