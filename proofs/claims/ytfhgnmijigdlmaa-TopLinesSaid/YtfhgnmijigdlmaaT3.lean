/- Contracts of the line: the ordered moves. -/
import Derived.Test.YtfhgnmijigdlmaaT2
namespace Go.Proofs.Ytfhgnmijigdlmaa
open Go.RowKit
attribute [local go_sem] GW.cell
theorem info73 : (Try.prog.info? 73).map (fun i => (i.zero, i.size, i.bytes)) = some (some (.agg #[.int .i64 0, .int .i64 0, .int .i64 0]), 3, 24) := by kernel_rfl
def slLen : Value → Nat
  | .slice _ n _ => n
  | _ => 0
theorem row_slot {W : World} {B e s g n c k : Nat} {xs : List Value} (h : W.ownsRow B e s (.slice (some ⟨g, 0, none⟩) n c) k xs) : g < W.heap.size ∧ k ≤ c ∧ B ≤ g := by
  rcases h.2 with ⟨e, _⟩ | ⟨g', cap, cur, e, hb, hg, h1, _⟩
  · simp at e
  · simp at e
    obtain ⟨rfl, rfl, rfl⟩ := e
    exact ⟨(Array.getElem?_eq_some_iff.1 hg).1, h1, hb⟩
/-- what the loop of 'ordered' knows of memory -/
structure OrdM (B : Nat) (a b : List Atom) (gx cx gy cy : Nat) (i : Nat) (ra : Int) (j : Nat) (rb : Int) (v : Value) (M : List Move) (W : World) : Prop where
  x : W.ownsRow B 118 3 (.slice (some ⟨gx, 0, none⟩) a.length cx) a.length (opnV (opens a i ra))
  y : W.ownsRow B 118 3 (.slice (some ⟨gy, 0, none⟩) b.length cy) b.length (opnV (opens b j rb))
  out : W.ownsRow B 73 3 v M.length (moveV M)
  xy : gx ≠ gy
  xv : some gx ≠ v.ownBlock
  yv : some gy ≠ v.ownBlock
/-- where the slice from the atom i on lies -/
def AtX (g n i : Nat) (v : Value) : Prop := ∃ ad c, v = .slice ad (n - i) c ∧ (i < n → ad = some ⟨g, i * 3, none⟩) ∧ n - i ≤ c
theorem ordM_cells {B : Nat} {a b : List Atom} {gx cx gy cy i j : Nat} {ra rb : Int} {v : Value} {M : List Move} {W : World} (h : OrdM B a b gx cx gy cy i ra j rb v M W) (hi : i < a.length) (hj : j < b.length) :
    (W.cell? ⟨gx, i * 3, none⟩ = some (.int .i64 a[i].p) ∧ W.cell? ⟨gx, i * 3 + 2, none⟩ = some (.int .i64 ra) ∧ W.frozen? ⟨gx, i * 3 + 2, none⟩ = false) ∧
    (W.cell? ⟨gy, j * 3, none⟩ = some (.int .i64 b[j].p) ∧ W.cell? ⟨gy, j * 3 + 2, none⟩ = some (.int .i64 rb) ∧ W.frozen? ⟨gy, j * 3 + 2, none⟩ = false) := by
  have h1 := opnV_at (opens a i ra) i (by rw [opens_length]; exact hi)
  have h2 := opnV_at (opens b j rb) j (by rw [opens_length]; exact hj)
  rw [opens_at hi] at h1
  rw [opens_at hj] at h2
  exact ⟨⟨(h.x.cellAt _ (by omega)).trans h1.1, (h.x.cellAt _ (by omega)).trans h1.2.2, h.x.frozenAt _⟩, ⟨(h.y.cellAt _ (by omega)).trans h2.1, (h.y.cellAt _ (by omega)).trans h2.2.2, h.y.frozenAt _⟩⟩
theorem atX_next {g n i lx kx : Nat} (h : n ≤ i + lx + 1 ∧ i + lx + 1 ≤ n) (hk : lx + 1 ≤ kx) : AtX g n (i + 1) (.slice (if kx = 1 then some ⟨g, i * 3, none⟩ else some ⟨g, i * 3 + 3, none⟩) lx (kx - 1)) := by
  refine ⟨_, kx - 1, by rw [show n - (i + 1) = lx by omega], fun hi => ?_, by omega⟩
  rw [if_neg (by omega), show (i + 1) * 3 = i * 3 + 3 by omega]
theorem atX_stay {g n i lx kx : Nat} (h : n ≤ i + lx + 1 ∧ i + lx + 1 ≤ n) (hk : lx + 1 ≤ kx) : AtX g n i (.slice (some ⟨g, i * 3, none⟩) (lx + 1) kx) :=
  ⟨_, kx, by rw [show n - i = lx + 1 by omega], fun _ => rfl, by omega⟩
theorem ordM_extw {w : World} {a b : List Atom} {gx cx gy cy i j : Nat} {ra rb : Int} {v : Value} {M : List Move} {W : World} (h : OrdM w.heap.size a b gx cx gy cy i ra j rb v M W) (hE : Ext w W) (x y : Nat) (u z : Value) : Ext w ((W.setCell ⟨gx, x, none⟩ u).setCell ⟨gy, y, none⟩ z) :=
  (hE.setCell (p := ⟨gx, x, none⟩) (row_slot h.x).2.2 u).setCell (p := ⟨gy, y, none⟩) (row_slot h.y).2.2 z
/-- both stores: n is taken off the atoms i and j -/
theorem ordM_store {B : Nat} {a b : List Atom} {gx cx gy cy i j : Nat} {ra rb : Int} {v : Value} {M : List Move} {W : World} (h : OrdM B a b gx cx gy cy i ra j rb v M W) (hi : i < a.length) (hj : j < b.length) (ra' rb' : Int) :
    OrdM B a b gx cx gy cy i ra' j rb' v M ((W.setCell ⟨gx, i * 3 + 2, none⟩ (.int .i64 ra')).setCell ⟨gy, j * 3 + 2, none⟩ (.int .i64 rb')) := by
  have e1 := opnV_set2 (opens a i ra) i (by rw [opens_length]; exact hi) ra'
  have e2 := opnV_set2 (opens b j rb) j (by rw [opens_length]; exact hj) rb'
  simp only [opens_at hi] at e1
  simp only [opens_at hj] at e2
  rw [opens_set hi] at e1
  rw [opens_set hj] at e2
  have x1 := (h.x.stored (i * 3 + 2) (.int .i64 ra')).1
  have y1 := row_set_other h.y (B := gx) (by intro e; exact h.xy (by simpa [Value.ownBlock] using e)) (i * 3 + 2) (.int .i64 ra')
  have v1 := row_set_other h.out h.xv (i * 3 + 2) (.int .i64 ra')
  have y2 := (y1.stored (j * 3 + 2) (.int .i64 rb')).1
  rw [e1] at x1
  rw [e2] at y2
  exact ⟨row_set_other x1 (B := gy) (by intro e; exact h.xy (by simpa [Value.ownBlock] using e.symm)) _ _, y2, row_set_other v1 h.yv _ _, h.xy, h.xv, h.yv⟩
theorem ordM_next1 {B : Nat} {a b : List Atom} {gx cx gy cy i j : Nat} {rb : Int} {v : Value} {M : List Move} {W : World} (h : OrdM B a b gx cx gy cy i 0 j rb v M W) : OrdM B a b gx cx gy cy (i + 1) (atK a (i + 1)).m j rb v M W :=
  ⟨by rw [← opens_next]; exact h.x, h.y, h.out, h.xy, h.xv, h.yv⟩
theorem ordM_next2 {B : Nat} {a b : List Atom} {gx cx gy cy i j : Nat} {ra : Int} {v : Value} {M : List Move} {W : World} (h : OrdM B a b gx cx gy cy i ra j 0 v M W) : OrdM B a b gx cx gy cy i ra (j + 1) (atK b (j + 1)).m v M W :=
  ⟨h.x, by rw [← opens_next]; exact h.y, h.out, h.xy, h.xv, h.yv⟩
theorem ordM_ext {B : Nat} {a b : List Atom} {gx cx gy cy i j : Nat} {ra rb : Int} {v : Value} {M : List Move} {W X : World} (h : OrdM B a b gx cx gy cy i ra j rb v M W) (hE : Ext W X) : OrdM B a b gx cx gy cy i ra j rb v M X :=
  ⟨row_ext h.x hE, row_ext h.y hE, row_ext h.out hE, h.xy, h.xv, h.yv⟩
theorem ordM_append {B : Nat} {a b : List Atom} {gx cx gy cy i j : Nat} {ra rb : Int} {v v' : Value} {M : List Move} {m : Move} {W X : World} {tmp : Obj} (h : OrdM B a b gx cx gy cy i ra j rb v M W) (hown : X.ownsRow B 73 3 v' (M.length + 1) (moveV M ++ moveV [m])) (hg : (W.alloc tmp).grownBy X v.ownBlock) (hat : v'.ownBlock = v.ownBlock ∨ v'.ownBlock = some (W.alloc tmp).heap.size) : OrdM B a b gx cx gy cy i ra j rb v' (M ++ [m]) X := by
  have lx := (row_slot h.x).1
  have ly := (row_slot h.y).1
  refine ⟨(h.x.alloc tmp).kept hg (.inr h.xv), (h.y.alloc tmp).kept hg (.inr h.yv), by rw [List.length_append, moveV_append]; exact hown, h.xy, ?_, ?_⟩
  · exact far_keeps (X := W.alloc tmp) h.xv (by simp; omega) hat
  · exact far_keeps (X := W.alloc tmp) h.yv (by simp; omega) hat

set_option maxRecDepth 20000 in
set_option maxHeartbeats 8000000 in
theorem f67_c (a1 a2 : Option Addr) (n c n2 c2 : Nat) (a b : List Atom) (w : World) (hl : Atoms w a1 a) (hn : a.length = n) (hm : Atoms w a2 b) (hn2 : b.length = n2) (h0 : linePair a b = 0) :
    Calls Try.prog 67 #[.slice a1 n c, .slice a2 n2 c2] w fun e w' => ∃ v, e = .returned v ∧ w'.ownsRow w.heap.size 73 3 v (ordL a b).length (moveV (ordL a b)) ∧ Ext w w' := by
  subst hn hn2
  obtain ⟨i0, hi⟩ := info_parts info73
  have Hi := Lib.hid hi
  clear hi
  obtain ⟨v1, v2, _⟩ := linePair_ok h0
  have hF := fine_load v1
  have hG := fine_load v2
  have pa := load_pw v1
  have pb := load_pw v2
  have H0 := Lib.hid (ordSt_start hF hG (pair_len h0))
  have Hst := Lib.hid (fun (i j : Nat) (ra rb : Int) (M : List Move) (h : OrdSt a b i ra j rb M) (hi : i < a.length) (hj : j < b.length) (n : Int) (hn : n = min ra rb) => ordSt_step hF hG pa pb h hi hj hn)
  have h6a := (listErr_ok v1).1
  have h6b := (listErr_ok v2).1
  have Ha := Lib.hid hF
  have Hb := Lib.hid hG
  clear h0 v1 v2 pa pb hF hG
  go_enter Try.func67, Try.ntmps67
  go_wp2_with fail
  refine (f111_c a1 a.length c a _ hl rfl Ha.out).mono ?_
  rintro e w1 ⟨vx, rfl, hX1, hE1⟩
  go_wp2_with fail
  refine (f111_c a2 b.length c2 b _ (hm.ext hE1) rfl Hb.out).mono ?_
  rintro e w2 ⟨vy, rfl, hY2, hE2⟩
  have hX2 := row_ext hX1 hE2
  have HX := Lib.hid hX2
  have HY := Lib.hid (row_base hY2 hE1.size)
  have hE2 := hE1.trans' hE2
  by_cases hz : a.length = 0 ∨ b.length = 0
  · have hz2 : a.length = 0 ∧ b.length = 0 := by
      have hl := H0.out.len
      rcases hz with h | h
      · refine ⟨h, ?_⟩
        by_cases hb : b.length = 0
        · exact hb
        · have := remU_len_pos (l := b) (i := 0) (by omega) (H0.out.rb1 (by omega)).1
          rw [remU_end (l := a) (by omega)] at hl
          rw [List.length_nil] at hl; omega
      · refine ⟨?_, h⟩
        by_cases hb : a.length = 0
        · exact hb
        · have := remU_len_pos (l := a) (i := 0) (by omega) (H0.out.ra1 (by omega)).1
          rw [remU_end (l := b) (by omega)] at hl
          rw [List.length_nil] at hl; omega
    have He := Lib.hid (ordSt_end H0.out (.inl (by omega))).2
    have hX := HX.out
    have hY := HY.out
    rw [hz2.1] at hX
    rw [hz2.2] at hY
    obtain ⟨ax, cx, rfl⟩ := slice_form hX
    obtain ⟨ay, cy, rfl⟩ := slice_form hY
    clear hz hz2 hX1 hX2 hY2 hX hY HX HY
    go_wp2_with fail
    go_loopw [5, 6, 7] (fun x y v wr => x = .slice ax 0 cx ∧ y = .slice ay 0 cy ∧ v = .slice none 0 0 ∧ Ext w wr) (fun _ _ _ _ => 0)
    case atStart => exact ⟨rfl, rfl, rfl, hE2⟩
    case round =>
      obtain ⟨rfl, rfl, rfl, hE⟩ := hrel
      go_wp2_with fail
      go_ret
      exact ⟨_, rfl, by rw [← He.out]; exact World.ownsRow_nil _ _ _ _, hE⟩
  obtain ⟨gx, cx, rfl, hgx, hgx2⟩ := ownsRow_form hX1 (by omega)
  obtain ⟨gy, cy, rfl, hgy, hgy2⟩ := ownsRow_form hY2 (by omega)
  have hM : Hid (OrdM w.heap.size a b gx cx gy cy 0 (atK a 0).m 0 (atK b 0).m (.slice none 0 0) [] w2) := Lib.hid ⟨by rw [opens_start]; exact HX.out, by rw [opens_start]; exact HY.out, World.ownsRow_nil _ _ _ _, by omega, by simp [Value.ownBlock], by simp [Value.ownBlock]⟩
  have hcx : a.length ≤ cx := (row_slot HX.out).2.1
  have hcy : b.length ≤ cy := (row_slot HY.out).2.1
  clear hX1 hX2 hY2 HX HY hz
  go_wp2_with fail
  go_loopw [5, 6, 7] (fun x y v wr => ∃ (i j : Nat) (ra rb : Int) (M : List Move), AtX gx a.length i x ∧ AtX gy b.length j y ∧ Hid (OrdSt a b i ra j rb M) ∧ Hid (OrdM w.heap.size a b gx cx gy cy i ra j rb v M wr) ∧ Ext w wr) (fun x y _ _ => slLen x + slLen y)
  case atStart => exact ⟨0, 0, _, _, [], ⟨_, cx, rfl, fun _ => by simp, by omega⟩, ⟨_, cy, rfl, fun _ => by simp, by omega⟩, H0, hM, hE2⟩
  case round =>
    obtain ⟨i, j, ra, rb, M, ⟨ax, kx, rfl, hax, hkx⟩, ⟨ay, ky, rfl, hay, hky⟩, HS, HM, hE⟩ := hrel
    have hia := HS.out.ia
    have hjb := HS.out.jb
    by_cases hi : i < a.length
    case neg =>
      have He := Lib.hid (ordSt_end HS.out (.inl (by omega))).2
      obtain rfl : i = a.length := by omega
      have HV := Lib.hid HM.out.out
      obtain ⟨av, cv, e⟩ := slice_form HV.out
      subst e
      simp only [Nat.sub_self] at *
      go_wp2_with fail
      go_ret
      exact ⟨_, rfl, by rw [← He.out]; exact HV.out, hE⟩
    have ax2 := hax hi
    subst ax2
    obtain ⟨lx, hlx1, hlx2⟩ : ∃ lx, a.length - i = lx + 1 ∧ (a.length ≤ i + lx + 1 ∧ i + lx + 1 ≤ a.length) := ⟨a.length - i - 1, by omega, by omega⟩
    by_cases hj : j < b.length
    case neg =>
      have He := Lib.hid (ordSt_end HS.out (.inr (by omega))).2
      obtain rfl : j = b.length := by omega
      have HV := Lib.hid HM.out.out
      obtain ⟨av, cv, e⟩ := slice_form HV.out
      subst e
      simp only [Nat.sub_self] at *
      rw [hlx1] at *
      clear hlx1
      go_wp2_with fail
      go_ret
      exact ⟨_, rfl, by rw [← He.out]; exact HV.out, hE⟩
    have ay2 := hay hj
    subst ay2
    obtain ⟨ly, hly1, hly2⟩ : ∃ ly, b.length - j = ly + 1 ∧ (b.length ≤ j + ly + 1 ∧ j + ly + 1 ≤ b.length) := ⟨b.length - j - 1, by omega, by omega⟩
    rw [hlx1] at *
    rw [hly1] at *
    clear hlx1 hly1 hax hay
    obtain ⟨⟨k1, k2, k3⟩, ⟨k4, k5, k6⟩⟩ := ordM_cells HM.out hi hj
    have hra := HS.out.ra1 hi
    have hrb := HS.out.rb1 hj
    have hcnt := HS.out.cnt
    have bx := (row_slot HM.out.x).1
    have by_ := (row_slot HM.out.y).1
    have Hst1 := Lib.hid (Hst.out i j ra rb M HS.out hi hj _ rfl)
    rcases Int.lt_trichotomy ra rb with hc | hc | hc
    · have m1 : min ra rb = ra := by omega
      have m2 : decide (rb < ra) = false := by simp; omega
      have m3 : decide (ra < rb) = true := by simp; omega
      have m4 : (rb - ra == 0) = false := by simp; omega
      go_wp2_with fail
      refine wp_region_ext (by kernel_rfl) (by kernel_rfl) ?_
      repeat (go_big_quiet_step (fail))
      refine wpQuiet_nil ?_
      intro w3 hE3
      clear k1 k2 k3 k4 k5 k6 bx by_
      have hE3 := hE.trans' hE3
      have HM := Lib.hid (ordM_ext HM.out ‹Ext wr w3›)
      obtain ⟨⟨k1, k2, k3⟩, ⟨k4, k5, k6⟩⟩ := ordM_cells HM.out hi hj
      have bx := (row_slot HM.out.x).1
      have by_ := (row_slot HM.out.y).1
      go_wp2_with fail
      refine wp_region_ext_tail1 13 (by kernel_rfl) (by kernel_rfl) (by rfl) (by rfl) (fun _ _ _ h => h) ?_
      simp only [List.take_succ_cons, List.take_zero, List.drop_succ_cons, List.drop_zero]
      go_simp
      repeat (go_big_quiet_step (fail))
      refine wpQuiet_nil ?_
      intro w4 hE4
      clear k1 k2 k3 k4 k5 k6 bx by_
      have HM := Lib.hid (ordM_ext HM.out hE4)
      have hE4 := hE3.trans' hE4
      have hsz := hE4.size
      have Hn := Lib.hid (reads_moves (moves_new1 w4 ⟨a[i].p, b[j].p, ra⟩ 73))
      go_wp2_with (at_builtin; refine wpList_append_any _ rfl (.tmp 30) (.tmp 43) 42 rfl w.heap.size 73 i0 _ 3 24 Try.underlying42 Hi.out.1 Hi.out.2.1 Hi.out.2.2.1 Hi.out.2.2.2 rfl (by omega) _ M.length _ rfl (HM.out.out.alloc _) _ (some ⟨w4.heap.size, 0, none⟩) 1 1 (moveV [⟨a[i].p, b[j].p, ra⟩]) rfl Hn.out (moveV_one_cell _) (by unfold maxLen; omega) (by omega) (by simp; omega) ?_; intro v5 w5 hown hgrow hat; have hE5 := ext_append hE4 HM.out.out (Nat.le_refl _) hgrow; have HM5 := Lib.hid (ordM_append HM.out hown hgrow hat); clear hat hgrow hown; clear Hn HM; obtain ⟨⟨k1, k2, k3⟩, ⟨k4, k5, k6⟩⟩ := ordM_cells HM5.out hi hj; have hxy := HM5.out.xy)
      have HS2 := Hst1.out
      rw [m1, if_pos rfl, if_pos rfl, if_neg (by omega), if_neg (by omega)] at HS2
      go_roundw
      case rel => exact ⟨i + 1, j, _, _, _, atX_next hlx2 (by omega), atX_stay hly2 (by omega), Lib.hid HS2, Lib.hid (ordM_next1 (ordM_store HM5.out hi hj 0 (rb - ra))), ordM_extw HM5.out hE5 _ _ _ _⟩
      case measure => simp [slLen]
    · subst hc
      have m1 : min ra ra = ra := by omega
      have m2 : decide (ra < ra) = false := by simp
      go_wp2_with fail
      refine wp_region_ext (by kernel_rfl) (by kernel_rfl) ?_
      repeat (go_big_quiet_step (fail))
      refine wpQuiet_nil ?_
      intro w3 hE3
      clear k1 k2 k3 k4 k5 k6 bx by_
      have hE3 := hE.trans' hE3
      have HM := Lib.hid (ordM_ext HM.out ‹Ext wr w3›)
      obtain ⟨⟨k1, k2, k3⟩, ⟨k4, k5, k6⟩⟩ := ordM_cells HM.out hi hj
      have bx := (row_slot HM.out.x).1
      have by_ := (row_slot HM.out.y).1
      go_wp2_with fail
      refine wp_region_ext_tail1 13 (by kernel_rfl) (by kernel_rfl) (by rfl) (by rfl) (fun _ _ _ h => h) ?_
      simp only [List.take_succ_cons, List.take_zero, List.drop_succ_cons, List.drop_zero]
      go_simp
      repeat (go_big_quiet_step (fail))
      refine wpQuiet_nil ?_
      intro w4 hE4
      clear k1 k2 k3 k4 k5 k6 bx by_
      have HM := Lib.hid (ordM_ext HM.out hE4)
      have hE4 := hE3.trans' hE4
      have hsz := hE4.size
      have Hn := Lib.hid (reads_moves (moves_new1 w4 ⟨a[i].p, b[j].p, ra⟩ 73))
      go_wp2_with (at_builtin; refine wpList_append_any _ rfl (.tmp 30) (.tmp 43) 42 rfl w.heap.size 73 i0 _ 3 24 Try.underlying42 Hi.out.1 Hi.out.2.1 Hi.out.2.2.1 Hi.out.2.2.2 rfl (by omega) _ M.length _ rfl (HM.out.out.alloc _) _ (some ⟨w4.heap.size, 0, none⟩) 1 1 (moveV [⟨a[i].p, b[j].p, ra⟩]) rfl Hn.out (moveV_one_cell _) (by unfold maxLen; omega) (by omega) (by simp; omega) ?_; intro v5 w5 hown hgrow hat; have hE5 := ext_append hE4 HM.out.out (Nat.le_refl _) hgrow; have HM5 := Lib.hid (ordM_append HM.out hown hgrow hat); clear hat hgrow hown; clear Hn HM; obtain ⟨⟨k1, k2, k3⟩, ⟨k4, k5, k6⟩⟩ := ordM_cells HM5.out hi hj; have hxy := HM5.out.xy)
      have HS2 := Hst1.out
      rw [m1, if_pos rfl, if_pos rfl, if_pos rfl, if_pos rfl] at HS2
      go_roundw
      case rel => exact ⟨i + 1, j + 1, _, _, _, atX_next hlx2 (by omega), atX_next hly2 (by omega), Lib.hid HS2, Lib.hid (ordM_next2 (ordM_next1 (ordM_store HM5.out hi hj 0 0))), ordM_extw HM5.out hE5 _ _ _ _⟩
      case measure => simp [slLen]; try omega
    · have m1 : min ra rb = rb := by omega
      have m2 : decide (rb < ra) = true := by simp; omega
      have m3 : decide (ra < rb) = false := by simp; omega
      have m4 : (ra - rb == 0) = false := by simp; omega
      go_wp2_with fail
      refine wp_region_ext (by kernel_rfl) (by kernel_rfl) ?_
      repeat (go_big_quiet_step (fail))
      refine wpQuiet_nil ?_
      intro w3 hE3
      clear k1 k2 k3 k4 k5 k6 bx by_
      have hE3 := hE.trans' hE3
      have HM := Lib.hid (ordM_ext HM.out ‹Ext wr w3›)
      obtain ⟨⟨k1, k2, k3⟩, ⟨k4, k5, k6⟩⟩ := ordM_cells HM.out hi hj
      have bx := (row_slot HM.out.x).1
      have by_ := (row_slot HM.out.y).1
      go_wp2_with fail
      refine wp_region_ext_tail1 13 (by kernel_rfl) (by kernel_rfl) (by rfl) (by rfl) (fun _ _ _ h => h) ?_
      simp only [List.take_succ_cons, List.take_zero, List.drop_succ_cons, List.drop_zero]
      go_simp
      repeat (go_big_quiet_step (fail))
      refine wpQuiet_nil ?_
      intro w4 hE4
      clear k1 k2 k3 k4 k5 k6 bx by_
      have HM := Lib.hid (ordM_ext HM.out hE4)
      have hE4 := hE3.trans' hE4
      have hsz := hE4.size
      have Hn := Lib.hid (reads_moves (moves_new1 w4 ⟨a[i].p, b[j].p, rb⟩ 73))
      go_wp2_with (at_builtin; refine wpList_append_any _ rfl (.tmp 30) (.tmp 43) 42 rfl w.heap.size 73 i0 _ 3 24 Try.underlying42 Hi.out.1 Hi.out.2.1 Hi.out.2.2.1 Hi.out.2.2.2 rfl (by omega) _ M.length _ rfl (HM.out.out.alloc _) _ (some ⟨w4.heap.size, 0, none⟩) 1 1 (moveV [⟨a[i].p, b[j].p, rb⟩]) rfl Hn.out (moveV_one_cell _) (by unfold maxLen; omega) (by omega) (by simp; omega) ?_; intro v5 w5 hown hgrow hat; have hE5 := ext_append hE4 HM.out.out (Nat.le_refl _) hgrow; have HM5 := Lib.hid (ordM_append HM.out hown hgrow hat); clear hat hgrow hown; clear Hn HM; obtain ⟨⟨k1, k2, k3⟩, ⟨k4, k5, k6⟩⟩ := ordM_cells HM5.out hi hj; have hxy := HM5.out.xy)
      have HS2 := Hst1.out
      rw [m1, if_neg (by omega), if_neg (by omega), if_pos rfl, if_pos rfl] at HS2
      go_roundw
      case rel => exact ⟨i, j + 1, _, _, _, atX_stay hlx2 (by omega), atX_next hly2 (by omega), Lib.hid HS2, Lib.hid (ordM_next2 (ordM_store HM5.out hi hj (ra - rb) 0)), ordM_extw HM5.out hE5 _ _ _ _⟩
      case measure => simp [slLen]; try omega
end Go.Proofs.Ytfhgnmijigdlmaa
