/- Contracts of roads: turn, Clone, the steps that a flow allows. -/
import Derived.Test.YtbejgbflipoboaaP1
import Derived.Test.YtbejgbflipoboaaT6
namespace Go.Proofs.Ytbejgbflipoboaa
open Go.RowKit
attribute [local go_sem] GW.cell
theorem info78 : (Try.prog.info? 78).map (fun i => (i.zero, i.size, i.bytes)) = some (some (.int .i64 0), 1, 8) := by kernel_rfl
theorem turnF_set {f : List Int} {s : Int} : turnF f s = f.set (stepNo s) (if s < 0 then gi f (stepNo s) - 1 else gi f (stepNo s) + 1) := by
  unfold turnF addAt; split <;> rfl
/-- what turn leaves: the flow's block has one number changed -/
def TurnW (w : World) (g : Nat) (f : List Int) (s : Int) (w' : World) : Prop := w' = w.setCell ⟨g, stepNo s, none⟩ (.int .i64 (if s < 0 then gi f (stepNo s) - 1 else gi f (stepNo s) + 1))
theorem TurnW.own {w w' : World} {T : TypeId} {B g n cap : Nat} {f : List Int} {s : Int} (h : TurnW w g f s w') (hf : OwnG w T B g n cap f) : OwnG w' T B g n cap (turnF f s) := by
  rw [turnF_set, show w' = _ from h]; exact hf.store _ _
theorem TurnW.other {w w' : World} {T2 : TypeId} {g B2 g2 n2 cap2 : Nat} {f f2 : List Int} {s : Int} (h : TurnW w g f s w') (h2 : OwnG w T2 B2 g2 n2 cap2 f2) (hne : g ≠ g2) : OwnG w' T2 B2 g2 n2 cap2 f2 := by
  rw [show w' = _ from h]; exact h2.other hne _ _
theorem TurnW.ext {w0 w w' : World} {g : Nat} {f : List Int} {s : Int} (h : TurnW w g f s w') (hE : Ext w0 w) (hg : w0.heap.size ≤ g) : Ext w0 w' := by
  rw [show w' = _ from h]; exact hE.setCell (p := ⟨g, _, none⟩) hg _
set_option maxHeartbeats 2000000 in
theorem f82_c (s : Int) (T : TypeId) (B g n cap : Nat) (f : List Int) (w : World) (hf : OwnG w T B g n cap f) (hs : StepIn n s) (hn : n ≤ 1000) (hb : -1000000 ≤ gi f (stepNo s) ∧ gi f (stepNo s) ≤ 1000000) :
    Calls Try.prog 82 #[.int .i64 s, .slice (some ⟨g, 0, none⟩) n cap] w fun e w' => e = .returned (.tuple #[]) ∧ TurnW w g f s w' := by
  have H79 := Lib.hid (fun W => f79_c s n hs hn W)
  have hk := stepNo_lt hs
  have hl := hf.len
  have hc := hf.cell (i := stepNo s) (by omega)
  rw [gi_def] at hc
  have hfz := hf.froz (stepNo s)
  have hz := hf.slot.1
  unfold TurnW
  clear hf hs hl
  generalize gi f (stepNo s) = v at *
  generalize stepNo s = k at *
  by_cases hneg : s < 0
  · have hd : decide (s < 0) = true := decide_eq_true hneg
    rw [if_pos hneg]
    clear hneg
    go_enter Try.func82, Try.ntmps82
    go_wp2_with fail
    refine (H79.out _).mono ?_
    rintro e w1 ⟨rfl, rfl⟩
    go_wp2_with fail
    go_end0
    exact ⟨rfl, rfl⟩
  · have hd : decide (s < 0) = false := decide_eq_false hneg
    rw [if_neg hneg]
    clear hneg
    go_enter Try.func82, Try.ntmps82
    go_wp2_with fail
    refine (H79.out _).mono ?_
    rintro e w1 ⟨rfl, rfl⟩
    go_wp2_with fail
    go_end0
    exact ⟨rfl, rfl⟩
theorem eq_nil25 (a : Addr) (l c : Nat) (w : World) : (binOp .eql 25 (.slice (some a) l c) (.slice none 0 0)).run Try.prog w = .ok (.bool false) w := by
  simp only [binOp]
  simp [run_equal_slice_nil w 25 3 (some a) l c Try.underlying25]
attribute [local go_sem] eq_nil25
theorem ints_one {l : List Int} : ∀ u ∈ l.map (Value.int .i64), u.oneCell' = true := fun u hu => by
  obtain ⟨x, _, rfl⟩ := List.mem_map.1 hu; rfl
set_option maxRecDepth 20000 in
set_option maxHeartbeats 4000000 in
theorem f81_c (b off n c : Nat) (l : List Int) (w : World) (hl : Ints w (some ⟨b, off, none⟩) l) (hn : l.length = n) (hn0 : 0 < n) (hlen : n ≤ 1000000) :
    Calls Try.prog 81 #[.slice (some ⟨b, off, none⟩) n c] w fun e w' => ∃ g cap, e = .returned (.slice (some ⟨g, 0, none⟩) n cap) ∧ OwnG w' 3 w.heap.size g n cap l ∧ Ext w w' := by
  subst hn
  obtain ⟨i0, hi0⟩ := info_parts info3
  have Hi := Lib.hid hi0
  have Hr := Lib.hid (reads_ints (hl.ext (ext_alloc w (.cells #[] 3))))
  have Hrow := Lib.hid (row_empty w 3 1)
  clear hi0
  go_enter Try.func81, Try.ntmps81
  go_wp2_with (at_builtin; refine wpList_append_any _ rfl (.tmp 5) (.tmp 6) 25 rfl w.heap.size 3 i0 (.int .i64 0) 1 8 Try.underlying25 Hi.out.1 Hi.out.2.1 Hi.out.2.2.1 Hi.out.2.2.2 rfl (by omega) (.slice (some ⟨w.heap.size, 0, none⟩) 0 0) 0 [] rfl Hrow.out _ (some ⟨b, off, none⟩) l.length c (l.map (.int .i64)) rfl Hr.out ints_one (by unfold maxLen; omega) (by omega) (by simp) ?_; intro v1 w1 hown hgrow hat; have hX1 := ext_grow (ext_alloc _ _) Hrow.out (Nat.le_refl _) hgrow; rw [Nat.zero_add, List.nil_append] at hown; obtain ⟨g8, c8, rfl, hg8, hg9⟩ := ownsRow_form hown hn0; have Hown := Lib.hid hown; clear hown hgrow hat)
  go_ret
  exact ⟨_, _, rfl, Hown.out, hX1⟩
theorem push_len {W : World} {B : Nat} {T : TypeId} {v : Value} {M : List Int} {x : Int} (h : W.ownsRow B T 1 v (M.length + 1) ((M ++ [x]).map (.int .i64))) : W.ownsRow B T 1 v (M ++ [x]).length ((M ++ [x]).map (.int .i64)) := by
  rw [List.length_append]; exact h
set_option maxRecDepth 20000 in
set_option maxHeartbeats 8000000 in
theorem f72_c (N : Int) (a : Option Addr) (n c : Nat) (R : List Road) (a2 : Option Addr) (n2 c2 : Nat) (f : List Int) (w : World) (hl : Roads w a R) (hn : R.length = n) (h12 : R.length ≤ 12) (hx : Ints w a2 f) (hn2 : f.length = n2) (hle : f.length = R.length) :
    Calls Try.prog 72 #[.agg #[.int .i64 N, .slice a n c], .slice a2 n2 c2] w fun e w' => ∃ v, e = .returned v ∧ w'.ownsRow w.heap.size 78 1 v (stepsTo R f R.length).length ((stepsTo R f R.length).map (.int .i64)) ∧ Ext w w' := by
  subst hn hn2
  obtain ⟨i0, hi0⟩ := info_parts info78
  have Hi := Lib.hid hi0
  clear hi0
  have hle2 : f.length ≤ R.length ∧ R.length ≤ f.length := by omega
  clear hle
  have hE0 := ext_alloc w (.cells #[.int .i64 N, .slice a R.length c] 24)
  have HB := Lib.hid (BlkC.new w #[.int .i64 N, .slice a R.length c] 24)
  have hz := HB.out.lt
  have g1 := HB.out.cellv 1 (v := .slice a R.length c) rfl
  go_enter Try.func72, Try.ntmps72
  go_wp2_with fail
  generalize (w.alloc (.cells #[.int .i64 N, .slice a R.length c] 24)) = w0 at *
  go_loopw [5, 11] (fun v i wr => ∃ k : Nat, k ≤ R.length ∧ i = .int .i64 k ∧ Ext w0 wr ∧ Hid (wr.ownsRow w0.heap.size 78 1 v (stepsTo R f k).length ((stepsTo R f k).map (.int .i64)))) (fun _ i _ => R.length - (intOf i).toNat)
  case atStart => exact ⟨0, Nat.zero_le _, rfl, Below.refl _ _, Lib.hid (World.ownsRow_nil _ _ _ _)⟩
  case round =>
    obtain ⟨k, hk, rfl, hX, H⟩ := hrel
    have hE := hE0.trans' hX
    clear g1
    have g1 := (HB.out.ext hX).cellv 1 (v := .slice a R.length c) rfl
    have hzr := (HB.out.ext hX).lt
    by_cases hlt : k < R.length
    case neg =>
      obtain rfl : k = R.length := by omega
      have HV := Lib.hid H.out
      obtain ⟨av, cv, e⟩ := slice_form HV.out
      subst e
      go_wp2_with fail
      go_ret
      exact ⟨_, rfl, row_base HV.out hE0.size, hE⟩
    have hltx : k < f.length := by omega
    obtain ⟨b, off, rfl, hb, c1, c2', c3, c4⟩ := hl.ext hE k hlt
    obtain ⟨b2, o2, rfl, hb2, hc2⟩ := hx.ext hE k hltx
    rw [gi_def] at hc2
    have Hs : Hid (stepsTo R f (k + 1) = (stepsTo R f k ++ if gi f k < R[k].wd then [(k : Int) + 1] else []) ++ if 0 < gi f k then [-(k : Int) - 1] else []) := Lib.hid (by rw [stepsTo, rdK_at hlt])
    have hSl := stepsTo_length R f k
    have Hx2 := Lib.hid (fun W (hW : Ext w W) => (hx.ext hW k hltx))
    generalize hv : gi f k = v0 at *
    have Hv := Lib.hid hv
    clear hv
    generalize stepsTo R f k = L at *
    generalize R[k].wd = wd at *
    generalize R[k].fr = fr at *
    generalize R[k].to = to at *
    generalize R[k].ln = ln at *
    have hXA := ext_alloc wr (.cells #[.int .i64 fr, .int .i64 to, .int .i64 ln, .int .i64 wd] 55)
    go_wp2_with fail
    refine wp_region_ext (by kernel_rfl) (by kernel_rfl) ?_
    repeat (go_big_quiet_step (fail))
    refine wpQuiet_nil ?_
    intro w9 hX9
    have hY9 := hX.trans' (hXA.trans' hX9)
    have hE9 := hE0.trans' hY9
    have H9 := Lib.hid (row_ext H.out (hXA.trans' hX9))
    clear hc2 c1 c2' c3 c4
    obtain ⟨bx3, ox3, ex3, hb3, hc3⟩ := Hx2.out _ hE9
    simp only [Option.some.injEq, Addr.mk.injEq, and_true] at ex3
    obtain ⟨rfl, rfl⟩ := ex3
    rw [gi_def, Hv.out] at hc3
    by_cases hc : v0 < wd
    · have hd1 : decide (v0 < wd) = true := decide_eq_true hc
      by_cases hp : 0 < v0
      · have hd2 : decide ((0 : Int) < v0) = true := decide_eq_true hp
        go_wp2_with (first | (at_builtin; refine wpList_push1 rfl (.tmp 23) (.tmp 26) 76 rfl Hi.out Try.underlying76 rfl rfl H9.out (by (try rw [List.length_append]); (try rw [List.length_cons, List.length_nil]); omega) hY9.size ?_; intro v10 w10 hown hgrow hat; have hY10 := ext_append hY9 H9.out (Nat.le_refl _) hgrow; have hE10 := hE0.trans' hY10; have H10 := Lib.hid (push_len hown); clear hown hgrow hat; obtain ⟨bx4, ox4, ex4, hb4, hc4⟩ := Hx2.out _ hE10; simp only [Option.some.injEq, Addr.mk.injEq, and_true] at ex4; obtain ⟨rfl, rfl⟩ := ex4; rw [gi_def, Hv.out] at hc4; clear hc3) | (at_builtin; refine wpList_push1 rfl (.tmp 33) (.tmp 37) 76 rfl Hi.out Try.underlying76 rfl rfl H10.out (by (try rw [List.length_append]); (try rw [List.length_cons, List.length_nil]); omega) hY10.size ?_; intro v11 w11 hown hgrow hat; have hY11 := ext_append hY10 H10.out (Nat.le_refl _) hgrow; have hE11 := hE0.trans' hY11; have H11 := Lib.hid (push_len hown); clear hown hgrow hat))
        go_roundw
        case rel => exact ⟨k + 1, by omega, by go_num, hY11, Lib.hid (by rw [Hs.out, if_pos hc, if_pos hp]; simpa only [List.append_nil] using H11.out)⟩
        case measure => simp [intOf]; omega
      · have hd2 : decide ((0 : Int) < v0) = false := decide_eq_false hp
        go_wp2_with (at_builtin; refine wpList_push1 rfl (.tmp 23) (.tmp 26) 76 rfl Hi.out Try.underlying76 rfl rfl H9.out (by (try rw [List.length_append]); (try rw [List.length_cons, List.length_nil]); omega) hY9.size ?_; intro v10 w10 hown hgrow hat; have hY10 := ext_append hY9 H9.out (Nat.le_refl _) hgrow; have hE10 := hE0.trans' hY10; have H10 := Lib.hid (push_len hown); clear hown hgrow hat; obtain ⟨bx4, ox4, ex4, hb4, hc4⟩ := Hx2.out _ hE10; simp only [Option.some.injEq, Addr.mk.injEq, and_true] at ex4; obtain ⟨rfl, rfl⟩ := ex4; rw [gi_def, Hv.out] at hc4; clear hc3)
        go_roundw
        case rel => exact ⟨k + 1, by omega, by go_num, hY10, Lib.hid (by rw [Hs.out, if_pos hc, if_neg hp]; simpa only [List.append_nil] using H10.out)⟩
        case measure => simp [intOf]; omega
    · have hd1 : decide (v0 < wd) = false := decide_eq_false hc
      by_cases hp : 0 < v0
      · have hd2 : decide ((0 : Int) < v0) = true := decide_eq_true hp
        go_wp2_with (at_builtin; refine wpList_push1 rfl (.tmp 33) (.tmp 37) 76 rfl Hi.out Try.underlying76 rfl rfl H9.out (by (try rw [List.length_append]); (try rw [List.length_cons, List.length_nil]); omega) hY9.size ?_; intro v11 w11 hown hgrow hat; have hY11 := ext_append hY9 H9.out (Nat.le_refl _) hgrow; have hE11 := hE0.trans' hY11; have H11 := Lib.hid (push_len hown); clear hown hgrow hat)
        go_roundw
        case rel => exact ⟨k + 1, by omega, by go_num, hY11, Lib.hid (by rw [Hs.out, if_neg hc, if_pos hp]; simpa only [List.append_nil] using H11.out)⟩
        case measure => simp [intOf]; omega
      · have hd2 : decide ((0 : Int) < v0) = false := decide_eq_false hp
        go_wp2_with fail
        go_roundw
        case rel => exact ⟨k + 1, by omega, by go_num, hY9, Lib.hid (by rw [Hs.out, if_neg hc, if_neg hp]; simpa only [List.append_nil] using H9.out)⟩
        case measure => simp [intOf]; omega
end Go.Proofs.Ytbejgbflipoboaa
