/- Contracts of roads: arcs of the reference. -/
import Derived.Test.YtbejgbflipoboaaT15
import Derived.Test.YtbejgbflipoboaaP3
namespace Go.Proofs.Ytbejgbflipoboaa
open Go.RowKit
attribute [local go_sem] GW.cell
theorem info84 : (Try.prog.info? 84).map (fun i => (i.zero, i.size, i.bytes)) = some (some (.agg #[.int .i64 0, .int .i64 0, .int .i64 0, .int .i64 0, .int .i64 0]), 5, 40) := by kernel_rfl
theorem row_new {W : World} {base : Nat} {e : TypeId} {size k : Nat} {v : Value} {xs : List Value} (h : W.ownsRow base e size v k xs) {B : Nat} (hB : W.heap.size ≤ B) : some B ≠ v.ownBlock := by
  rcases h.2 with ⟨rfl, _⟩ | ⟨g, cap, cur, rfl, hb, hg, _⟩
  · simp [Value.ownBlock]
  · intro e2
    have : B = g := by simpa [Value.ownBlock] using e2
    have := (Array.getElem?_eq_some_iff.1 hg).1
    omega
/-- append of one arc -/
theorem wpList_pushA {ops : Array Oper} {rest : List Oper} {o : Oper} {a : Act} {Q : Exit → Act → World → Prop} {w : World} {i : TypeInfo} {s : Rarc} {v : Value} {base : Nat} {xs : List Rarc} (hgd : o.guard = none) (sl xx : Operand)
    (ho : o.op = .call { callee := .builtin .append, args := #[sl, xx], argTypes := #[81, 81] }) (hi : Try.prog.info? 84 = some i ∧ i.zero = some (.agg #[.int .i64 0, .int .i64 0, .int .i64 0, .int .i64 0, .int .i64 0]) ∧ i.size = 5 ∧ i.bytes = 40)
    (hs : a.eval sl = v) (hx : a.eval xx = .slice (some ⟨w.heap.size, 0, none⟩) 1 1) (hown : Hid (w.ownsRow base 84 5 v xs.length (rarcV xs))) (hk : xs.length ≤ 1000000) (hbase : base ≤ w.heap.size)
    (h : ∀ v' w', Hid (w'.ownsRow base 84 5 v' (xs ++ [s]).length (rarcV (xs ++ [s]))) → (w.alloc (.cells #[.int .i64 s.fr, .int .i64 s.to, .int .i64 s.ln, .int .i64 s.rd, .int .i64 s.wy] 84)).grownBy w' v.ownBlock → wpList Try.prog ops Q rest (a.put o.dst v') w') :
    wpList Try.prog ops Q (o :: rest) a (w.alloc (.cells #[.int .i64 s.fr, .int .i64 s.to, .int .i64 s.ln, .int .i64 s.rd, .int .i64 s.wy] 84)) := by
  obtain ⟨h2, h3, h4, h5⟩ := hi
  refine wpList_append_any _ hgd sl xx 81 ho base 84 i _ 5 40 Try.underlying81 h2 h3 h4 h5 rfl (by omega) v xs.length _ hs (hown.out.alloc _) (w.heap.size + 1) (some ⟨w.heap.size, 0, none⟩) 1 1 (rarcV [s]) hx ?_ (rarcV_one_cell _) (by unfold maxLen; omega) (by omega) (by simp; omega) ?_
  · have := reads_rarcs (rarcs_new1 w s 84)
    simpa using this
  · intro v' w' h6 h7 _
    exact h v' w' (Lib.hid (by rw [List.length_append, rarcV_append]; exact h6)) h7
theorem arcs_succ {R : List Road} {f : List Int} {k : Nat} (hk : k < R.length) : arcsOf R (stepsTo R f (k + 1)) = (arcsOf R (stepsTo R f k) ++ if gi f k < R[k].wd then [(⟨R[k].fr, R[k].to, R[k].ln, k, 1⟩ : Rarc)] else []) ++ if 0 < gi f k then [(⟨R[k].to, R[k].fr, -R[k].ln, k, -1⟩ : Rarc)] else [] := by
  rw [stepsTo, rdK_at hk]
  unfold arcsOf
  rw [List.map_append, List.map_append]
  have e1 : arcOf R ((k : Int) + 1) = ⟨R[k].fr, R[k].to, R[k].ln, k, 1⟩ := by
    have en : stepNo ((k : Int) + 1) = k := by unfold stepNo; omega
    unfold arcOf stFr stTo stLn sg
    rw [if_neg (by omega), if_neg (by omega), if_neg (by omega), if_neg (by omega), en, rdK_at hk]
  have e2 : arcOf R (-(k : Int) - 1) = ⟨R[k].to, R[k].fr, -R[k].ln, k, -1⟩ := by
    have en : stepNo (-(k : Int) - 1) = k := by unfold stepNo; omega
    unfold arcOf stFr stTo stLn sg
    rw [if_pos (by omega), if_pos (by omega), if_pos (by omega), if_pos (by omega), en, rdK_at hk]
  split <;> split <;> simp [e1, e2]
theorem arcsOf_length (R : List Road) (L : List Int) : (arcsOf R L).length = L.length := by simp [arcsOf]
set_option maxRecDepth 20000 in
set_option maxHeartbeats 8000000 in
theorem f74_c (N : Int) (a : Option Addr) (n c : Nat) (R : List Road) (a2 : Option Addr) (n2 c2 : Nat) (f : List Int) (w : World) (hl : Roads w a R) (hn : R.length = n) (h12 : R.length ≤ 12) (hx : Ints w a2 f) (hn2 : f.length = n2) (hle : f.length = R.length) (hln : ∀ k, (h : k < R.length) → 0 ≤ R[k].ln ∧ R[k].ln ≤ 99) :
    Calls Try.prog 74 #[.agg #[.int .i64 N, .slice a n c], .slice a2 n2 c2] w fun e w' => ∃ v, e = .returned v ∧ w'.ownsRow w.heap.size 84 5 v (arcsOf R (stepsTo R f R.length)).length (rarcV (arcsOf R (stepsTo R f R.length))) ∧ Ext w w' := by
  subst hn hn2
  obtain ⟨i0, hi0⟩ := info_parts info84
  have Hi := Lib.hid hi0
  clear hi0
  have hle2 : f.length ≤ R.length ∧ R.length ≤ f.length := by omega
  clear hle
  have hE0 := ext_alloc w (.cells #[.int .i64 N, .slice a R.length c] 24)
  have HB := Lib.hid (BlkC.new w #[.int .i64 N, .slice a R.length c] 24)
  have hz := HB.out.lt
  have g1 := HB.out.cellv 1 (v := .slice a R.length c) rfl
  go_enter Try.func74, Try.ntmps74
  go_wp2_with fail
  generalize (w.alloc (.cells #[.int .i64 N, .slice a R.length c] 24)) = w0 at *
  go_loopw [5, 6] (fun v i wr => ∃ k : Nat, k ≤ R.length ∧ i = .int .i64 k ∧ Ext w0 wr ∧ Hid (wr.ownsRow w0.heap.size 84 5 v (arcsOf R (stepsTo R f k)).length (rarcV (arcsOf R (stepsTo R f k))))) (fun _ i _ => R.length - (intOf i).toNat)
  case atStart => exact ⟨0, Nat.zero_le _, rfl, Below.refl _ _, Lib.hid (World.ownsRow_nil _ _ _ _)⟩
  case round =>
    obtain ⟨k, hk, rfl, hX, H⟩ := hrel
    have hE := hE0.trans' hX
    clear g1
    have g1 := (HB.out.ext hX).cellv 1 (v := .slice a R.length c) rfl
    have hzr := (HB.out.ext hX).lt
    by_cases hlt : k < R.length
    case neg =>
      obtain rfl : k = R.length := by omega
      have HV := Lib.hid H.out
      obtain ⟨av, cv, e, _⟩ := rarcs_of_row HV.out
      subst e
      go_wp2_with fail
      go_ret
      exact ⟨_, rfl, row_base HV.out hE0.size, hE⟩
    have hltx : k < f.length := by omega
    obtain ⟨b, off, rfl, hb, c1, c2', c3, c4⟩ := hl.ext hE k hlt
    obtain ⟨b2, o2, rfl, hb2, hc2⟩ := hx.ext hE k hltx
    rw [gi_def] at hc2
    have Hs := Lib.hid (arcs_succ (f := f) hlt)
    have hSl : (arcsOf R (stepsTo R f k)).length ≤ 24 := by rw [arcsOf_length]; have := stepsTo_length R f k; omega
    have Hx2 := Lib.hid (fun W (hW : Ext w W) => (hx.ext hW k hltx))
    have hlnb := hln k hlt
    generalize hv : gi f k = v0 at *
    have Hv := Lib.hid hv
    clear hv
    generalize arcsOf R (stepsTo R f k) = L at *
    generalize R[k].wd = wd at *
    generalize R[k].fr = fr at *
    generalize R[k].to = tt at *
    generalize R[k].ln = ln at *
    have hXA := ext_alloc wr (.cells #[.int .i64 fr, .int .i64 tt, .int .i64 ln, .int .i64 wd] 55)
    have HT := Lib.hid (BlkC.new wr #[.int .i64 fr, .int .i64 tt, .int .i64 ln, .int .i64 wd] 55)
    go_wp2_with fail
    refine wp_region_ext (by kernel_rfl) (by kernel_rfl) ?_
    repeat (go_big_quiet_step (fail))
    refine wpQuiet_nil ?_
    intro w9 hX9
    have hY9 := hX.trans' (hXA.trans' hX9)
    have hE9 := hE0.trans' hY9
    have H9 := Lib.hid (row_ext H.out (hXA.trans' hX9))
    have HT9 := Lib.hid (HT.out.ext hX9)
    have t0 := HT9.out.cellv 0 (v := .int .i64 fr) rfl
    have t1 := HT9.out.cellv 1 (v := .int .i64 tt) rfl
    have t2 := HT9.out.cellv 2 (v := .int .i64 ln) rfl
    have ht9 := HT9.out.lt
    clear hc2 c1 c2' c3 c4
    obtain ⟨bx3, ox3, ex3, hb3, hc3⟩ := Hx2.out _ hE9
    simp only [Option.some.injEq, Addr.mk.injEq, and_true] at ex3
    obtain ⟨rfl, rfl⟩ := ex3
    rw [gi_def, Hv.out] at hc3
    have hyg := row_new H.out (Nat.le_refl _)
    generalize hxb : wr.heap.size = xb at *
    clear hxb
    by_cases hc : v0 < wd
    · by_cases hp : 0 < v0
      · have hd1 : decide (v0 < wd) = true := decide_eq_true hc
        have hd2 : decide ((0 : Int) < v0) = true := decide_eq_true hp
        go_wp2_with (first | (at_builtin; refine wpList_pushA (s := ⟨fr, tt, ln, k, 1⟩) rfl (.tmp 27) (.tmp 36) rfl Hi.out rfl rfl H9 (by omega) hY9.size ?_; intro v10 w10 H10 hgrow; have hY10 := ext_append hY9 H9.out (Nat.le_refl _) hgrow; have hE10 := hE0.trans' hY10; have hL1 : (L ++ [(⟨fr, tt, ln, k, 1⟩ : Rarc)]).length ≤ 25 := (by rw [List.length_append]; simp; omega); have HT10 := Lib.hid (HT9.out.appended hgrow hyg); clear t0 t1 t2 ht9; have t0 := HT10.out.cellv 0 (v := .int .i64 fr) rfl; have t1 := HT10.out.cellv 1 (v := .int .i64 tt) rfl; have t2 := HT10.out.cellv 2 (v := .int .i64 ln) rfl; have ht9 := HT10.out.lt; clear hgrow; obtain ⟨bx4, ox4, ex4, hb4, hc4⟩ := Hx2.out _ hE10; simp only [Option.some.injEq, Addr.mk.injEq, and_true] at ex4; obtain ⟨rfl, rfl⟩ := ex4; rw [gi_def, Hv.out] at hc4; clear hc3) | (at_builtin; refine wpList_pushA (s := ⟨tt, fr, -ln, k, -1⟩) rfl (.tmp 43) (.tmp 53) rfl Hi.out rfl rfl H10 (by omega) hY10.size ?_; intro v11 w11 H11 hgrow; have hY11 := ext_append hY10 H10.out (Nat.le_refl _) hgrow; clear hgrow))
        go_roundw
        case rel => exact ⟨k + 1, by omega, by go_num, hY11, Lib.hid (by rw [Hs.out, if_pos hc, if_pos hp]; simpa only [List.append_nil] using H11.out)⟩
        case measure => simp [intOf]; omega
      · have hd1 : decide (v0 < wd) = true := decide_eq_true hc
        have hd2 : decide ((0 : Int) < v0) = false := decide_eq_false hp
        go_wp2_with (at_builtin; refine wpList_pushA (s := ⟨fr, tt, ln, k, 1⟩) rfl (.tmp 27) (.tmp 36) rfl Hi.out rfl rfl H9 (by omega) hY9.size ?_; intro v10 w10 H10 hgrow; have hY10 := ext_append hY9 H9.out (Nat.le_refl _) hgrow; have hE10 := hE0.trans' hY10; have hL1 : (L ++ [(⟨fr, tt, ln, k, 1⟩ : Rarc)]).length ≤ 25 := (by rw [List.length_append]; simp; omega); have HT10 := Lib.hid (HT9.out.appended hgrow hyg); clear t0 t1 t2 ht9; have t0 := HT10.out.cellv 0 (v := .int .i64 fr) rfl; have t1 := HT10.out.cellv 1 (v := .int .i64 tt) rfl; have t2 := HT10.out.cellv 2 (v := .int .i64 ln) rfl; have ht9 := HT10.out.lt; clear hgrow; obtain ⟨bx4, ox4, ex4, hb4, hc4⟩ := Hx2.out _ hE10; simp only [Option.some.injEq, Addr.mk.injEq, and_true] at ex4; obtain ⟨rfl, rfl⟩ := ex4; rw [gi_def, Hv.out] at hc4; clear hc3)
        go_roundw
        case rel => exact ⟨k + 1, by omega, by go_num, hY10, Lib.hid (by rw [Hs.out, if_pos hc, if_neg hp]; simpa only [List.append_nil] using H10.out)⟩
        case measure => simp [intOf]; omega
    · by_cases hp : 0 < v0
      · have hd1 : decide (v0 < wd) = false := decide_eq_false hc
        have hd2 : decide ((0 : Int) < v0) = true := decide_eq_true hp
        go_wp2_with (at_builtin; refine wpList_pushA (s := ⟨tt, fr, -ln, k, -1⟩) rfl (.tmp 43) (.tmp 53) rfl Hi.out rfl rfl H9 (by omega) hY9.size ?_; intro v11 w11 H11 hgrow; have hY11 := ext_append hY9 H9.out (Nat.le_refl _) hgrow; clear hgrow)
        go_roundw
        case rel => exact ⟨k + 1, by omega, by go_num, hY11, Lib.hid (by rw [Hs.out, if_neg hc, if_pos hp]; simpa only [List.append_nil] using H11.out)⟩
        case measure => simp [intOf]; omega
      · have hd1 : decide (v0 < wd) = false := decide_eq_false hc
        have hd2 : decide ((0 : Int) < v0) = false := decide_eq_false hp
        go_wp2_with fail
        go_roundw
        case rel => exact ⟨k + 1, by omega, by go_num, hY9, Lib.hid (by rw [Hs.out, if_neg hc, if_neg hp]; simpa only [List.append_nil] using H9.out)⟩
        case measure => simp [intOf]; omega
end Go.Proofs.Ytbejgbflipoboaa
