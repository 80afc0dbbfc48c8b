/- Contracts of the line: costs of moves, the ordered moves, Least. Turned from seat c2's texts. -/
import Derived.Test.YtgnjaapjaglleaaP19
namespace Go.Proofs.Ytgnjaapjaglleaa
open Go.RowKit
attribute [local go_sem] GW.cell
/-- moves that are not too large to add up -/
def MBd (M : List Move) : Prop := ∀ x ∈ M, (1 ≤ x.m ∧ x.m ≤ 1000) ∧ (-60000 ≤ x.fr ∧ x.fr ≤ 60000) ∧ (-60000 ≤ x.to ∧ x.to ≤ 60000)
theorem costTo_succ {M : List Move} {q : Nat} (hq : q < M.length) (k : Int) : costTo M k (q + 1) = costTo M k q + M[q].m * priceV M[q].fr M[q].to k := by
  unfold costTo; simp only [sumR]; rw [mvK_at hq]
theorem cost_term {M : List Move} (h : MBd M) {q : Nat} (hq : q < M.length) (k : Int) : 0 ≤ M[q].m * priceV M[q].fr M[q].to k ∧ M[q].m * priceV M[q].fr M[q].to k ≤ 14400000000000 := by
  have h1 := h _ (List.getElem_mem hq)
  have h2 := priceV_bd h1.2.1 h1.2.2 k
  exact ⟨Int.mul_nonneg (by omega) h2.1, by have := Int.mul_le_mul h1.1.2 h2.2 h2.1 (by omega); omega⟩
theorem costTo_bd {M : List Move} (h : MBd M) (k : Int) : ∀ n, n ≤ M.length → 0 ≤ costTo M k n ∧ costTo M k n ≤ n * 14400000000000
  | 0, _ => by simp [costTo, sumR]
  | n + 1, hn => by
    have ih := costTo_bd h k n (by omega)
    have h1 := cost_term h (show n < M.length by omega) k
    rw [costTo_succ (by omega)]
    omega
set_option maxHeartbeats 2000000 in
theorem f96_c (a : Option Addr) (n c : Nat) (M : List Move) (k : Int) (w : World) (hl : Moves w a M) (hn : M.length = n) (hlen : n ≤ 100) (hM : MBd M) (hk : k = 1 ∨ k = 2) :
    Calls Try.prog 96 #[.slice a n c, .int .i64 k] w fun e w' => e = .returned (.int .i64 (costTo M k n)) ∧ Ext w w' := by
  subst hn
  have HM := Lib.hid hM
  have Hk := Lib.hid hk
  clear hM hk
  go_enter Try.func96, Try.ntmps96
  go_wp2_with fail
  go_loopw [5, 10] (fun s i wr => ∃ q : Nat, q ≤ M.length ∧ i = .int .i64 q ∧ s = .int .i64 (costTo M k q) ∧ Ext w wr) (fun _ i _ => M.length - (intOf i).toNat)
  case atStart => exact ⟨0, Nat.zero_le _, rfl, rfl, Below.refl _ _⟩
  case round =>
    obtain ⟨q, hq, rfl, rfl, hE⟩ := hrel
    by_cases hlt : q < M.length
    · obtain ⟨b, off, rfl, hb, hx, hy, hz⟩ := hl.ext hE q hlt
      have b0 := costTo_bd HM.out k q (by omega)
      have b1 := cost_term HM.out hlt k
      have b2 := HM.out _ (List.getElem_mem hlt)
      have Hs := Lib.hid (costTo_succ hlt k)
      have Hp := Lib.hid (fun W => f110_c M[q].fr M[q].to k W b2.2.1 b2.2.2 Hk.out)
      generalize priceV M[q].fr M[q].to k = P at *
      generalize M[q].m = mm at *
      generalize M[q].fr = ff at *
      generalize M[q].to = tt at *
      generalize costTo M k q = A at *
      clear b2
      go_wp2_with fail
      refine wp_region_ext (by kernel_rfl) (by kernel_rfl) ?_
      repeat (go_big_quiet_step ((go_at_call 110; exact quiet_same (Hp.out _))))
      refine wpQuiet_nil ?_
      intro w1 hE1
      go_wp2_with fail
      go_roundw
      case rel => exact ⟨q + 1, by omega, by go_num, by rw [Hs.out], hE.trans' ((ext_alloc _ _).trans' hE1)⟩
      case measure => simp [intOf]; omega
    · obtain rfl : q = M.length := by omega
      go_wp2_with fail
      go_ret
      exact ⟨rfl, hE⟩

theorem info103 : (Try.prog.info? 103).map (fun i => (i.zero, i.size, i.bytes)) = some (some (.agg #[.int .i64 0, .int .i64 0, .int .i64 0]), 3, 24) := by kernel_rfl
def slLen : Value → Nat
  | .slice _ n _ => n
  | _ => 0
theorem row_slot {W : World} {B e s g n c k : Nat} {xs : List Value} (h : W.ownsRow B e s (.slice (some ⟨g, 0, none⟩) n c) k xs) : g < W.heap.size ∧ k ≤ c ∧ B ≤ g := by
  rcases h.2 with ⟨e, _⟩ | ⟨g', cap, cur, e, hb, hg, h1, _⟩
  · simp at e
  · simp at e
    obtain ⟨rfl, rfl, rfl⟩ := e
    exact ⟨(Array.getElem?_eq_some_iff.1 hg).1, h1, hb⟩
/-- what the loop of 'ordered' knows of memory -/
structure OrdM (B : Nat) (a b : List Atom) (gx cx gy cy : Nat) (i : Nat) (ra : Int) (j : Nat) (rb : Int) (v : Value) (M : List Move) (W : World) : Prop where
  x : W.ownsRow B 107 3 (.slice (some ⟨gx, 0, none⟩) a.length cx) a.length (opnV (opens a i ra))
  y : W.ownsRow B 107 3 (.slice (some ⟨gy, 0, none⟩) b.length cy) b.length (opnV (opens b j rb))
  out : W.ownsRow B 103 3 v M.length (moveV M)
  xy : gx ≠ gy
  xv : some gx ≠ v.ownBlock
  yv : some gy ≠ v.ownBlock
/-- where the slice from the atom i on lies -/
def AtX (g n i : Nat) (v : Value) : Prop := ∃ ad c, v = .slice ad (n - i) c ∧ (i < n → ad = some ⟨g, i * 3, none⟩) ∧ n - i ≤ c
theorem ordM_cells {B : Nat} {a b : List Atom} {gx cx gy cy i j : Nat} {ra rb : Int} {v : Value} {M : List Move} {W : World} (h : OrdM B a b gx cx gy cy i ra j rb v M W) (hi : i < a.length) (hj : j < b.length) :
    (W.cell? ⟨gx, i * 3, none⟩ = some (.int .i64 a[i].p) ∧ W.cell? ⟨gx, i * 3 + 2, none⟩ = some (.int .i64 ra) ∧ W.frozen? ⟨gx, i * 3 + 2, none⟩ = false) ∧
    (W.cell? ⟨gy, j * 3, none⟩ = some (.int .i64 b[j].p) ∧ W.cell? ⟨gy, j * 3 + 2, none⟩ = some (.int .i64 rb) ∧ W.frozen? ⟨gy, j * 3 + 2, none⟩ = false) := by
  have h1 := opnV_at (opens a i ra) i (by rw [opens_length]; exact hi)
  have h2 := opnV_at (opens b j rb) j (by rw [opens_length]; exact hj)
  rw [opens_at hi] at h1
  rw [opens_at hj] at h2
  exact ⟨⟨(h.x.cellAt _ (by omega)).trans h1.1, (h.x.cellAt _ (by omega)).trans h1.2.2, h.x.frozenAt _⟩, ⟨(h.y.cellAt _ (by omega)).trans h2.1, (h.y.cellAt _ (by omega)).trans h2.2.2, h.y.frozenAt _⟩⟩
theorem atX_next {g n i lx kx : Nat} (h : n ≤ i + lx + 1 ∧ i + lx + 1 ≤ n) (hk : lx + 1 ≤ kx) : AtX g n (i + 1) (.slice (if kx = 1 then some ⟨g, i * 3, none⟩ else some ⟨g, i * 3 + 3, none⟩) lx (kx - 1)) := by
  refine ⟨_, kx - 1, by rw [show n - (i + 1) = lx by omega], fun hi => ?_, by omega⟩
  rw [if_neg (by omega), show (i + 1) * 3 = i * 3 + 3 by omega]
theorem atX_stay {g n i lx kx : Nat} (h : n ≤ i + lx + 1 ∧ i + lx + 1 ≤ n) (hk : lx + 1 ≤ kx) : AtX g n i (.slice (some ⟨g, i * 3, none⟩) (lx + 1) kx) :=
  ⟨_, kx, by rw [show n - i = lx + 1 by omega], fun _ => rfl, by omega⟩
theorem ordM_extw {w : World} {a b : List Atom} {gx cx gy cy i j : Nat} {ra rb : Int} {v : Value} {M : List Move} {W : World} (h : OrdM w.heap.size a b gx cx gy cy i ra j rb v M W) (hE : Ext w W) (x y : Nat) (u z : Value) : Ext w ((W.setCell ⟨gx, x, none⟩ u).setCell ⟨gy, y, none⟩ z) :=
  (hE.setCell (p := ⟨gx, x, none⟩) (row_slot h.x).2.2 u).setCell (p := ⟨gy, y, none⟩) (row_slot h.y).2.2 z
/-- both stores: n is taken off the atoms i and j -/
theorem ordM_store {B : Nat} {a b : List Atom} {gx cx gy cy i j : Nat} {ra rb : Int} {v : Value} {M : List Move} {W : World} (h : OrdM B a b gx cx gy cy i ra j rb v M W) (hi : i < a.length) (hj : j < b.length) (ra' rb' : Int) :
    OrdM B a b gx cx gy cy i ra' j rb' v M ((W.setCell ⟨gx, i * 3 + 2, none⟩ (.int .i64 ra')).setCell ⟨gy, j * 3 + 2, none⟩ (.int .i64 rb')) := by
  have e1 := opnV_set2 (opens a i ra) i (by rw [opens_length]; exact hi) ra'
  have e2 := opnV_set2 (opens b j rb) j (by rw [opens_length]; exact hj) rb'
  simp only [opens_at hi] at e1
  simp only [opens_at hj] at e2
  rw [opens_set hi] at e1
  rw [opens_set hj] at e2
  have x1 := (h.x.stored (i * 3 + 2) (.int .i64 ra')).1
  have y1 := row_set_other h.y (B := gx) (by intro e; exact h.xy (by simpa [Value.ownBlock] using e)) (i * 3 + 2) (.int .i64 ra')
  have v1 := row_set_other h.out h.xv (i * 3 + 2) (.int .i64 ra')
  have y2 := (y1.stored (j * 3 + 2) (.int .i64 rb')).1
  rw [e1] at x1
  rw [e2] at y2
  exact ⟨row_set_other x1 (B := gy) (by intro e; exact h.xy (by simpa [Value.ownBlock] using e.symm)) _ _, y2, row_set_other v1 h.yv _ _, h.xy, h.xv, h.yv⟩
theorem ordM_next1 {B : Nat} {a b : List Atom} {gx cx gy cy i j : Nat} {rb : Int} {v : Value} {M : List Move} {W : World} (h : OrdM B a b gx cx gy cy i 0 j rb v M W) : OrdM B a b gx cx gy cy (i + 1) (atK a (i + 1)).m j rb v M W :=
  ⟨by rw [← opens_next]; exact h.x, h.y, h.out, h.xy, h.xv, h.yv⟩
theorem ordM_next2 {B : Nat} {a b : List Atom} {gx cx gy cy i j : Nat} {ra : Int} {v : Value} {M : List Move} {W : World} (h : OrdM B a b gx cx gy cy i ra j 0 v M W) : OrdM B a b gx cx gy cy i ra (j + 1) (atK b (j + 1)).m v M W :=
  ⟨h.x, by rw [← opens_next]; exact h.y, h.out, h.xy, h.xv, h.yv⟩
theorem ordM_ext {B : Nat} {a b : List Atom} {gx cx gy cy i j : Nat} {ra rb : Int} {v : Value} {M : List Move} {W X : World} (h : OrdM B a b gx cx gy cy i ra j rb v M W) (hE : Ext W X) : OrdM B a b gx cx gy cy i ra j rb v M X :=
  ⟨row_ext h.x hE, row_ext h.y hE, row_ext h.out hE, h.xy, h.xv, h.yv⟩
theorem ordM_append {B : Nat} {a b : List Atom} {gx cx gy cy i j : Nat} {ra rb : Int} {v v' : Value} {M : List Move} {m : Move} {W X : World} {tmp : Obj} (h : OrdM B a b gx cx gy cy i ra j rb v M W) (hown : X.ownsRow B 103 3 v' (M.length + 1) (moveV M ++ moveV [m])) (hg : (W.alloc tmp).grownBy X v.ownBlock) (hat : v'.ownBlock = v.ownBlock ∨ v'.ownBlock = some (W.alloc tmp).heap.size) : OrdM B a b gx cx gy cy i ra j rb v' (M ++ [m]) X := by
  have lx := (row_slot h.x).1
  have ly := (row_slot h.y).1
  refine ⟨(h.x.alloc tmp).kept hg (.inr h.xv), (h.y.alloc tmp).kept hg (.inr h.yv), by rw [List.length_append, moveV_append]; exact hown, h.xy, ?_, ?_⟩
  · exact far_keeps (X := W.alloc tmp) h.xv (by simp; omega) hat
  · exact far_keeps (X := W.alloc tmp) h.yv (by simp; omega) hat

set_option maxRecDepth 20000 in
set_option maxHeartbeats 8000000 in
theorem f97_c (a1 a2 : Option Addr) (n c n2 c2 : Nat) (a b : List Atom) (w : World) (hl : Atoms w a1 a) (hn : a.length = n) (hm : Atoms w a2 b) (hn2 : b.length = n2) (h0 : linePair a b = 0) :
    Calls Try.prog 97 #[.slice a1 n c, .slice a2 n2 c2] w fun e w' => ∃ v, e = .returned v ∧ w'.ownsRow w.heap.size 103 3 v (ordL a b).length (moveV (ordL a b)) ∧ Ext w w' := by
  subst hn hn2
  obtain ⟨i0, hi⟩ := info_parts info103
  have Hi := Lib.hid hi
  clear hi
  obtain ⟨v1, v2, _⟩ := linePair_ok h0
  have hF := fine_load v1
  have hG := fine_load v2
  have pa := load_pw v1
  have pb := load_pw v2
  have H0 := Lib.hid (ordSt_start hF hG (pair_len h0))
  have Hst := Lib.hid (fun (i j : Nat) (ra rb : Int) (M : List Move) (h : OrdSt a b i ra j rb M) (hi : i < a.length) (hj : j < b.length) (n : Int) (hn : n = min ra rb) => ordSt_step hF hG pa pb h hi hj hn)
  have h6a := (listErr_ok v1).1
  have h6b := (listErr_ok v2).1
  have Ha := Lib.hid hF
  have Hb := Lib.hid hG
  clear h0 v1 v2 pa pb hF hG
  go_enter Try.func97, Try.ntmps97
  go_wp2_with fail
  refine (f111_c a1 a.length c a _ hl rfl Ha.out).mono ?_
  rintro e w1 ⟨vx, rfl, hX1, hE1⟩
  go_wp2_with fail
  refine (f111_c a2 b.length c2 b _ (hm.ext hE1) rfl Hb.out).mono ?_
  rintro e w2 ⟨vy, rfl, hY2, hE2⟩
  have hX2 := row_ext hX1 hE2
  have HX := Lib.hid hX2
  have HY := Lib.hid (row_base hY2 hE1.size)
  have hE2 := hE1.trans' hE2
  by_cases hz : a.length = 0 ∨ b.length = 0
  · have hz2 : a.length = 0 ∧ b.length = 0 := by
      have hl := H0.out.len
      rcases hz with h | h
      · refine ⟨h, ?_⟩
        by_cases hb : b.length = 0
        · exact hb
        · have := remU_len_pos (l := b) (i := 0) (by omega) (H0.out.rb1 (by omega)).1
          rw [remU_end (l := a) (by omega)] at hl
          rw [List.length_nil] at hl; omega
      · refine ⟨?_, h⟩
        by_cases hb : a.length = 0
        · exact hb
        · have := remU_len_pos (l := a) (i := 0) (by omega) (H0.out.ra1 (by omega)).1
          rw [remU_end (l := b) (by omega)] at hl
          rw [List.length_nil] at hl; omega
    have He := Lib.hid (ordSt_end H0.out (.inl (by omega))).2
    have hX := HX.out
    have hY := HY.out
    rw [hz2.1] at hX
    rw [hz2.2] at hY
    obtain ⟨ax, cx, rfl⟩ := slice_form hX
    obtain ⟨ay, cy, rfl⟩ := slice_form hY
    clear hz hz2 hX1 hX2 hY2 hX hY HX HY
    go_wp2_with fail
    go_loopw [5, 6, 7] (fun x y v wr => x = .slice ax 0 cx ∧ y = .slice ay 0 cy ∧ v = .slice none 0 0 ∧ Ext w wr) (fun _ _ _ _ => 0)
    case atStart => exact ⟨rfl, rfl, rfl, hE2⟩
    case round =>
      obtain ⟨rfl, rfl, rfl, hE⟩ := hrel
      go_wp2_with fail
      go_ret
      exact ⟨_, rfl, by rw [← He.out]; exact World.ownsRow_nil _ _ _ _, hE⟩
  obtain ⟨gx, cx, rfl, hgx, hgx2⟩ := ownsRow_form hX1 (by omega)
  obtain ⟨gy, cy, rfl, hgy, hgy2⟩ := ownsRow_form hY2 (by omega)
  have hM : Hid (OrdM w.heap.size a b gx cx gy cy 0 (atK a 0).m 0 (atK b 0).m (.slice none 0 0) [] w2) := Lib.hid ⟨by rw [opens_start]; exact HX.out, by rw [opens_start]; exact HY.out, World.ownsRow_nil _ _ _ _, by omega, by simp [Value.ownBlock], by simp [Value.ownBlock]⟩
  have hcx : a.length ≤ cx := (row_slot HX.out).2.1
  have hcy : b.length ≤ cy := (row_slot HY.out).2.1
  clear hX1 hX2 hY2 HX HY hz
  go_wp2_with fail
  go_loopw [5, 6, 7] (fun x y v wr => ∃ (i j : Nat) (ra rb : Int) (M : List Move), AtX gx a.length i x ∧ AtX gy b.length j y ∧ Hid (OrdSt a b i ra j rb M) ∧ Hid (OrdM w.heap.size a b gx cx gy cy i ra j rb v M wr) ∧ Ext w wr) (fun x y _ _ => slLen x + slLen y)
  case atStart => exact ⟨0, 0, _, _, [], ⟨_, cx, rfl, fun _ => by simp, by omega⟩, ⟨_, cy, rfl, fun _ => by simp, by omega⟩, H0, hM, hE2⟩
  case round =>
    obtain ⟨i, j, ra, rb, M, ⟨ax, kx, rfl, hax, hkx⟩, ⟨ay, ky, rfl, hay, hky⟩, HS, HM, hE⟩ := hrel
    have hia := HS.out.ia
    have hjb := HS.out.jb
    by_cases hi : i < a.length
    case neg =>
      have He := Lib.hid (ordSt_end HS.out (.inl (by omega))).2
      obtain rfl : i = a.length := by omega
      have HV := Lib.hid HM.out.out
      obtain ⟨av, cv, e⟩ := slice_form HV.out
      subst e
      simp only [Nat.sub_self] at *
      go_wp2_with fail
      go_ret
      exact ⟨_, rfl, by rw [← He.out]; exact HV.out, hE⟩
    have ax2 := hax hi
    subst ax2
    obtain ⟨lx, hlx1, hlx2⟩ : ∃ lx, a.length - i = lx + 1 ∧ (a.length ≤ i + lx + 1 ∧ i + lx + 1 ≤ a.length) := ⟨a.length - i - 1, by omega, by omega⟩
    by_cases hj : j < b.length
    case neg =>
      have He := Lib.hid (ordSt_end HS.out (.inr (by omega))).2
      obtain rfl : j = b.length := by omega
      have HV := Lib.hid HM.out.out
      obtain ⟨av, cv, e⟩ := slice_form HV.out
      subst e
      simp only [Nat.sub_self] at *
      rw [hlx1] at *
      clear hlx1
      go_wp2_with fail
      go_ret
      exact ⟨_, rfl, by rw [← He.out]; exact HV.out, hE⟩
    have ay2 := hay hj
    subst ay2
    obtain ⟨ly, hly1, hly2⟩ : ∃ ly, b.length - j = ly + 1 ∧ (b.length ≤ j + ly + 1 ∧ j + ly + 1 ≤ b.length) := ⟨b.length - j - 1, by omega, by omega⟩
    rw [hlx1] at *
    rw [hly1] at *
    clear hlx1 hly1 hax hay
    obtain ⟨⟨k1, k2, k3⟩, ⟨k4, k5, k6⟩⟩ := ordM_cells HM.out hi hj
    have hra := HS.out.ra1 hi
    have hrb := HS.out.rb1 hj
    have hcnt := HS.out.cnt
    have bx := (row_slot HM.out.x).1
    have by_ := (row_slot HM.out.y).1
    have Hst1 := Lib.hid (Hst.out i j ra rb M HS.out hi hj _ rfl)
    rcases Int.lt_trichotomy ra rb with hc | hc | hc
    · have m1 : min ra rb = ra := by omega
      have m2 : decide (rb < ra) = false := by simp; omega
      have m3 : decide (ra < rb) = true := by simp; omega
      have m4 : (rb - ra == 0) = false := by simp; omega
      go_wp2_with fail
      refine wp_region_ext (by kernel_rfl) (by kernel_rfl) ?_
      repeat (go_big_quiet_step (fail))
      refine wpQuiet_nil ?_
      intro w3 hE3
      clear k1 k2 k3 k4 k5 k6 bx by_
      have hE3 := hE.trans' hE3
      have HM := Lib.hid (ordM_ext HM.out ‹Ext wr w3›)
      obtain ⟨⟨k1, k2, k3⟩, ⟨k4, k5, k6⟩⟩ := ordM_cells HM.out hi hj
      have bx := (row_slot HM.out.x).1
      have by_ := (row_slot HM.out.y).1
      go_wp2_with fail
      refine wp_region_ext_tail1 13 (by kernel_rfl) (by kernel_rfl) (by rfl) (by rfl) (fun _ _ _ h => h) ?_
      simp only [List.take_succ_cons, List.take_zero, List.drop_succ_cons, List.drop_zero]
      go_simp
      repeat (go_big_quiet_step (fail))
      refine wpQuiet_nil ?_
      intro w4 hE4
      clear k1 k2 k3 k4 k5 k6 bx by_
      have HM := Lib.hid (ordM_ext HM.out hE4)
      have hE4 := hE3.trans' hE4
      have hsz := hE4.size
      have Hn := Lib.hid (reads_moves (moves_new1 w4 ⟨a[i].p, b[j].p, ra⟩ 103))
      go_wp2_with (at_builtin; refine wpList_append_any _ rfl (.tmp 30) (.tmp 43) 94 rfl w.heap.size 103 i0 _ 3 24 Try.underlying94 Hi.out.1 Hi.out.2.1 Hi.out.2.2.1 Hi.out.2.2.2 rfl (by omega) _ M.length _ rfl (HM.out.out.alloc _) _ (some ⟨w4.heap.size, 0, none⟩) 1 1 (moveV [⟨a[i].p, b[j].p, ra⟩]) rfl Hn.out (moveV_one_cell _) (by unfold maxLen; omega) (by omega) (by simp; omega) ?_; intro v5 w5 hown hgrow hat; have hE5 := ext_append hE4 HM.out.out (Nat.le_refl _) hgrow; have HM5 := Lib.hid (ordM_append HM.out hown hgrow hat); clear hat hgrow hown; clear Hn HM; obtain ⟨⟨k1, k2, k3⟩, ⟨k4, k5, k6⟩⟩ := ordM_cells HM5.out hi hj; have hxy := HM5.out.xy)
      have HS2 := Hst1.out
      rw [m1, if_pos rfl, if_pos rfl, if_neg (by omega), if_neg (by omega)] at HS2
      go_roundw
      case rel => exact ⟨i + 1, j, _, _, _, atX_next hlx2 (by omega), atX_stay hly2 (by omega), Lib.hid HS2, Lib.hid (ordM_next1 (ordM_store HM5.out hi hj 0 (rb - ra))), ordM_extw HM5.out hE5 _ _ _ _⟩
      case measure => simp [slLen]
    · subst hc
      have m1 : min ra ra = ra := by omega
      have m2 : decide (ra < ra) = false := by simp
      go_wp2_with fail
      refine wp_region_ext (by kernel_rfl) (by kernel_rfl) ?_
      repeat (go_big_quiet_step (fail))
      refine wpQuiet_nil ?_
      intro w3 hE3
      clear k1 k2 k3 k4 k5 k6 bx by_
      have hE3 := hE.trans' hE3
      have HM := Lib.hid (ordM_ext HM.out ‹Ext wr w3›)
      obtain ⟨⟨k1, k2, k3⟩, ⟨k4, k5, k6⟩⟩ := ordM_cells HM.out hi hj
      have bx := (row_slot HM.out.x).1
      have by_ := (row_slot HM.out.y).1
      go_wp2_with fail
      refine wp_region_ext_tail1 13 (by kernel_rfl) (by kernel_rfl) (by rfl) (by rfl) (fun _ _ _ h => h) ?_
      simp only [List.take_succ_cons, List.take_zero, List.drop_succ_cons, List.drop_zero]
      go_simp
      repeat (go_big_quiet_step (fail))
      refine wpQuiet_nil ?_
      intro w4 hE4
      clear k1 k2 k3 k4 k5 k6 bx by_
      have HM := Lib.hid (ordM_ext HM.out hE4)
      have hE4 := hE3.trans' hE4
      have hsz := hE4.size
      have Hn := Lib.hid (reads_moves (moves_new1 w4 ⟨a[i].p, b[j].p, ra⟩ 103))
      go_wp2_with (at_builtin; refine wpList_append_any _ rfl (.tmp 30) (.tmp 43) 94 rfl w.heap.size 103 i0 _ 3 24 Try.underlying94 Hi.out.1 Hi.out.2.1 Hi.out.2.2.1 Hi.out.2.2.2 rfl (by omega) _ M.length _ rfl (HM.out.out.alloc _) _ (some ⟨w4.heap.size, 0, none⟩) 1 1 (moveV [⟨a[i].p, b[j].p, ra⟩]) rfl Hn.out (moveV_one_cell _) (by unfold maxLen; omega) (by omega) (by simp; omega) ?_; intro v5 w5 hown hgrow hat; have hE5 := ext_append hE4 HM.out.out (Nat.le_refl _) hgrow; have HM5 := Lib.hid (ordM_append HM.out hown hgrow hat); clear hat hgrow hown; clear Hn HM; obtain ⟨⟨k1, k2, k3⟩, ⟨k4, k5, k6⟩⟩ := ordM_cells HM5.out hi hj; have hxy := HM5.out.xy)
      have HS2 := Hst1.out
      rw [m1, if_pos rfl, if_pos rfl, if_pos rfl, if_pos rfl] at HS2
      go_roundw
      case rel => exact ⟨i + 1, j + 1, _, _, _, atX_next hlx2 (by omega), atX_next hly2 (by omega), Lib.hid HS2, Lib.hid (ordM_next2 (ordM_next1 (ordM_store HM5.out hi hj 0 0))), ordM_extw HM5.out hE5 _ _ _ _⟩
      case measure => simp [slLen]; try omega
    · have m1 : min ra rb = rb := by omega
      have m2 : decide (rb < ra) = true := by simp; omega
      have m3 : decide (ra < rb) = false := by simp; omega
      have m4 : (ra - rb == 0) = false := by simp; omega
      go_wp2_with fail
      refine wp_region_ext (by kernel_rfl) (by kernel_rfl) ?_
      repeat (go_big_quiet_step (fail))
      refine wpQuiet_nil ?_
      intro w3 hE3
      clear k1 k2 k3 k4 k5 k6 bx by_
      have hE3 := hE.trans' hE3
      have HM := Lib.hid (ordM_ext HM.out ‹Ext wr w3›)
      obtain ⟨⟨k1, k2, k3⟩, ⟨k4, k5, k6⟩⟩ := ordM_cells HM.out hi hj
      have bx := (row_slot HM.out.x).1
      have by_ := (row_slot HM.out.y).1
      go_wp2_with fail
      refine wp_region_ext_tail1 13 (by kernel_rfl) (by kernel_rfl) (by rfl) (by rfl) (fun _ _ _ h => h) ?_
      simp only [List.take_succ_cons, List.take_zero, List.drop_succ_cons, List.drop_zero]
      go_simp
      repeat (go_big_quiet_step (fail))
      refine wpQuiet_nil ?_
      intro w4 hE4
      clear k1 k2 k3 k4 k5 k6 bx by_
      have HM := Lib.hid (ordM_ext HM.out hE4)
      have hE4 := hE3.trans' hE4
      have hsz := hE4.size
      have Hn := Lib.hid (reads_moves (moves_new1 w4 ⟨a[i].p, b[j].p, rb⟩ 103))
      go_wp2_with (at_builtin; refine wpList_append_any _ rfl (.tmp 30) (.tmp 43) 94 rfl w.heap.size 103 i0 _ 3 24 Try.underlying94 Hi.out.1 Hi.out.2.1 Hi.out.2.2.1 Hi.out.2.2.2 rfl (by omega) _ M.length _ rfl (HM.out.out.alloc _) _ (some ⟨w4.heap.size, 0, none⟩) 1 1 (moveV [⟨a[i].p, b[j].p, rb⟩]) rfl Hn.out (moveV_one_cell _) (by unfold maxLen; omega) (by omega) (by simp; omega) ?_; intro v5 w5 hown hgrow hat; have hE5 := ext_append hE4 HM.out.out (Nat.le_refl _) hgrow; have HM5 := Lib.hid (ordM_append HM.out hown hgrow hat); clear hat hgrow hown; clear Hn HM; obtain ⟨⟨k1, k2, k3⟩, ⟨k4, k5, k6⟩⟩ := ordM_cells HM5.out hi hj; have hxy := HM5.out.xy)
      have HS2 := Hst1.out
      rw [m1, if_neg (by omega), if_neg (by omega), if_pos rfl, if_pos rfl] at HS2
      go_roundw
      case rel => exact ⟨i, j + 1, _, _, _, atX_stay hlx2 (by omega), atX_next hly2 (by omega), Lib.hid HS2, Lib.hid (ordM_next2 (ordM_store HM5.out hi hj (ra - rb) 0)), ordM_extw HM5.out hE5 _ _ _ _⟩
      case measure => simp [slLen]; try omega

def leastErr (a b : List Atom) (k : Int) : Int := if bothErr a b ≠ 0 then bothErr a b else if kindB k then (if totalL a ≠ totalL b then 5 else 0) else 1
def leastV (a b : List Atom) (k : Int) : Int := if leastErr a b k = 0 then apartL a b k else 0
theorem leastErr_ok {a b : List Atom} {k : Int} (h : leastErr a b k = 0) : linePair a b = 0 ∧ kindB k = true := by
  unfold leastErr at h
  by_cases h1 : bothErr a b = 0
  · rw [if_neg (by simpa using h1)] at h
    by_cases h2 : kindB k = true
    · rw [if_pos h2] at h
      by_cases h3 : totalL a = totalL b
      · exact ⟨by unfold linePair; rw [if_neg (by simpa using h1), if_neg (by simpa using h3)], h2⟩
      · rw [if_pos h3] at h; omega
    · rw [if_neg h2] at h; omega
  · rw [if_pos h1] at h; exact absurd h h1
theorem leastErr_mk {a b : List Atom} {k : Int} (h : linePair a b = 0) (h2 : kindB k = true) : leastErr a b k = 0 := by
  obtain ⟨a1, a2, a3⟩ := linePair_ok h
  unfold leastErr
  rw [if_neg (by simp [bothErr, a1, a2]), if_pos h2, if_neg (by simpa using a3)]
theorem pair_both {a b : List Atom} (h : bothErr a b = 0) : linePair a b = if totalL a ≠ totalL b then 5 else 0 := by unfold linePair; rw [if_neg (by simpa using h)]
/-- what is known of the ordered moves of two loads -/
theorem ord_facts {a b : List Atom} (h : linePair a b = 0) : (ordL a b).length ≤ 12 ∧ MBd (ordL a b) ∧ chkErr a b (ordL a b) = 0 ∧ ordB (ordL a b) = true ∧ ∀ k, costTo (ordL a b) k (ordL a b).length = apartL a b k := by
  obtain ⟨a1, a2, a3⟩ := linePair_ok h
  obtain ⟨h1, h2, h3⟩ := ordL_facts (fine_load a1) (fine_load a2) (load_pw a1) (load_pw a2) (pair_len h)
  have l1 := (listErr_ok a1).1
  have l2 := (listErr_ok a2).1
  obtain ⟨g1, g2, g3⟩ := ordered_said h h1 (by omega) (fun x hx => (h3 x hx).1.1)
  exact ⟨by omega, h3, g1, g2, g3⟩
set_option maxHeartbeats 4000000 in
theorem f57_c (a1 a2 : Option Addr) (n c n2 c2 : Nat) (a b : List Atom) (k : Int) (w : World) (hl : Atoms w a1 a) (hn : a.length = n) (hlen : n ≤ 140737488355328) (hm : Atoms w a2 b) (hn2 : b.length = n2) (hlen2 : n2 ≤ 140737488355328) :
    Calls Try.prog 57 #[.slice a1 n c, .slice a2 n2 c2, .int .i64 k] w fun e w' => e = .returned (.tuple #[.int .i64 (leastV a b k), .int .i64 (leastErr a b k)]) ∧ Ext w w' := by
  have C1 := f94_c a1 a2 n c n2 c2 a b w hl hn hlen hm hn2 hlen2
  by_cases h0 : bothErr a b = 0
  case neg =>
    have hb : (bothErr a b != 0) = true := by simp [h0]
    have e1 : leastErr a b k = bothErr a b := by unfold leastErr; rw [if_pos h0]
    have e2 : leastV a b k = 0 := by unfold leastV; rw [e1, if_neg h0]
    rw [e1, e2]
    have C1 := Lib.hid C1
    clear h0 e1 e2
    generalize bothErr a b = E at *
    go_enter Try.func57, Try.ntmps57
    go_wp2_with fail
    refine C1.out.mono ?_
    rintro e w1 ⟨rfl, hE1⟩
    go_wp2_with fail
    go_ret2
    exact ⟨rfl, hE1⟩
  have C2 := fun W (h : Ext w W) => f95_c a1 a2 n c n2 c2 a b W (hl.ext h) hn hlen (hm.ext h) hn2 hlen2
  rw [h0] at C1
  have C1 := Lib.hid C1
  cases hk : kindB k
  · have e1 : leastErr a b k = 1 := by unfold leastErr; rw [if_neg (by simpa using h0), if_neg (by simp [hk])]
    have e2 : leastV a b k = 0 := by unfold leastV; rw [e1, if_neg (by omega)]
    rw [e1, e2]
    have k1 : (k != 1) = true := by simp [kindB] at hk ⊢; exact hk.1
    have k2 : (k != 2) = true := by simp [kindB] at hk ⊢; exact hk.2
    clear h0 e1 e2 hk C2 hn hn2
    go_enter Try.func57, Try.ntmps57
    go_wp2_with fail
    refine C1.out.mono ?_
    rintro e w1 ⟨rfl, hE1⟩
    go_wp2_with fail
    go_ret2
    exact ⟨rfl, hE1⟩
  by_cases hp : linePair a b = 0
  case neg =>
    have hb : (linePair a b != 0) = true := by simp [hp]
    have e1 : leastErr a b k = linePair a b := by unfold leastErr; rw [if_neg (by simpa using h0), if_pos hk, pair_both h0]
    have e2 : leastV a b k = 0 := by unfold leastV; rw [e1, if_neg hp]
    rw [e1, e2]
    have C2 := Lib.hid C2
    have hk := kind_or hk
    clear h0 e1 e2 hp hn hn2
    generalize linePair a b = E at *
    rcases hk with rfl | rfl
    all_goals
      go_enter Try.func57, Try.ntmps57
      go_wp2_with fail
      refine C1.out.mono ?_
      rintro e w1 ⟨rfl, hE1⟩
      go_wp2_with fail
      refine (C2.out _ hE1).mono ?_
      rintro e w2 ⟨rfl, hE2⟩
      go_wp2_with fail
      go_ret2
      exact ⟨rfl, hE1.trans' hE2⟩
  obtain ⟨g1, g2, -, -, g3⟩ := ord_facts hp
  have e1 := leastErr_mk hp hk
  have e2 : leastV a b k = costTo (ordL a b) k (ordL a b).length := by unfold leastV; rw [if_pos e1, g3]
  rw [e1, e2]
  have C3 := Lib.hid (fun W (h : Ext w W) => f97_c a1 a2 n c n2 c2 a b W (hl.ext h) hn (hm.ext h) hn2 hp)
  rw [hp] at C2
  have C2 := Lib.hid C2
  have Hg2 := Lib.hid g2
  have hk := kind_or hk
  clear h0 e1 e2 hp g3 hn hn2 g2
  generalize ordL a b = M at *
  rcases hk with rfl | rfl
  all_goals
    go_enter Try.func57, Try.ntmps57
    go_wp2_with fail
    refine C1.out.mono ?_
    rintro e w1 ⟨rfl, hE1⟩
    go_wp2_with fail
    refine (C2.out _ hE1).mono ?_
    rintro e w2 ⟨rfl, hX2⟩
    have hE2 := hE1.trans' hX2
    go_wp2_with fail
    refine (C3.out _ hE2).mono ?_
    rintro e w3 ⟨v, rfl, hrow, hX3⟩
    obtain ⟨a3, c3, e3, hM⟩ := moves_of_row hrow
    subst e3
    have hE3 := hE2.trans' hX3
    clear hrow
    have HM := Lib.hid hM
    clear hM
    go_wp2_with fail
    refine (f96_c a3 M.length c3 M _ _ HM.out rfl (by omega) Hg2.out (by omega)).mono ?_
    rintro e w4 ⟨rfl, hX4⟩
    go_wp2_with fail
    go_ret2
    exact ⟨rfl, hE3.trans' hX4⟩
end Go.Proofs.Ytgnjaapjaglleaa
