/- Contracts of layer 6: the reference's cut. -/
import Derived.Test.YtaidoaggmllcfaaP2
import Derived.Test.YtaidoaggmllcfaaTab3
namespace Go.Proofs.Ytaidoaggmllcfaa
open Go.RowKit
attribute [local go_sem] GW.cell

/-- the first k rows cut -/
def cutTo (n m : Nat) (t : Tbl) (x : List Int) (k : Nat) : Tbl := mk n m fun i j => if i < k ∧ lr x t i < 0 then shareV (tg t i j) (gi x i) (sm (row t i)) else tg t i j
theorem cutTo_len (n m : Nat) (t : Tbl) (x : List Int) (k : Nat) : (cutTo n m t x k).length = n := mk_len _ _ _
theorem cutTo_cols {n m : Nat} {t : Tbl} {x : List Int} {k i : Nat} (h : i < n) : (row (cutTo n m t x k) i).length = m := mk_cols _ h
theorem cutTo_zero {n m : Nat} {t : Tbl} {x : List Int} {lo hi : Int} (h : TOk n m lo hi t) : cutTo n m t x 0 = t := by
  have : cutTo n m t x 0 = mk n m (tg t) := mk_eq fun i j _ _ => by rw [if_neg (by omega)]
  rw [this]; exact mk_of h.len h.cols
theorem cutTo_all {n m : Nat} {t : Tbl} {x : List Int} : cutTo n m t x n = cutR n m t x := mk_eq fun i j hi _ => by
  by_cases h : lr x t i < 0
  · rw [if_pos ⟨hi, h⟩, if_pos h]
  · rw [if_neg (by omega), if_neg h]
theorem cutTo_skip {n m : Nat} {t : Tbl} {x : List Int} {k : Nat} (h : ¬ lr x t k < 0) : cutTo n m t x (k + 1) = cutTo n m t x k := mk_eq fun i j _ _ => by
  by_cases e : i = k
  · subst e; rw [if_neg (by omega), if_neg (by omega)]
  · by_cases h1 : i < k ∧ lr x t i < 0
    · rw [if_pos h1, if_pos (by omega)]
    · rw [if_neg h1, if_neg (by omega)]
theorem cutTo_take {n m : Nat} {t : Tbl} {x : List Int} {k : Nat} (hk : k < n) (h : lr x t k < 0) : (cutTo n m t x k).set k (row (fitR n m t x) k) = cutTo n m t x (k + 1) := by
  have hl : k < (cutTo n m t x k).length := by rw [cutTo_len]; exact hk
  refine tbl_ext (by rw [List.length_set, cutTo_len, cutTo_len]) (fun i hi => ?_) (fun i j hi hj => ?_)
  · rw [List.length_set, cutTo_len] at hi
    rw [row_set hl, cutTo_cols hi]
    split
    · exact mk_cols _ hk
    · exact cutTo_cols hi
  · rw [List.length_set, cutTo_len] at hi
    rw [row_set hl] at hj
    have hjm : j < m := by
      split at hj
      · rw [show (row (fitR n m t x) k).length = m from mk_cols _ hk] at hj; exact hj
      · rw [cutTo_cols hi] at hj; exact hj
    unfold tg
    rw [row_set hl]
    by_cases e : i = k
    · subst e
      rw [if_pos rfl]
      show tg (fitR n m t x) i j = tg (cutTo n m t x (i + 1)) i j
      unfold fitR cutTo
      rw [tg_mk _ hi hjm, tg_mk _ hi hjm, if_pos (by omega)]
    · rw [if_neg e]
      show tg (cutTo n m t x k) i j = tg (cutTo n m t x (k + 1)) i j
      unfold cutTo
      rw [tg_mk _ hi hjm, tg_mk _ hi hjm]
      by_cases h1 : i < k ∧ lr x t i < 0
      · rw [if_pos h1, if_pos (by omega)]
      · rw [if_neg h1, if_neg (by omega)]
/-- two tables of the call's own, rows of the second laid into the first: how it lies after k rows -/
def Mixed (W : World) (B _U1 U2 : Nat) (v : Value) (n : Nat) (A1 A2 : Nat → Option Addr) (C1 C2 G1 G2 O1 O2 : Nat → Nat) (k : Nat) (t : Tbl) : Prop :=
  ∃ (A : Nat → Option Addr) (C G O : Nat → Nat), OwnL 31 W B U2 v A C G O t ∧ ∀ i, i < n → ((A i = A1 i ∧ C i = C1 i ∧ G i = G1 i ∧ O i = O1 i) ∨ (i < k ∧ A i = A2 i ∧ C i = C2 i ∧ G i = G2 i ∧ O i = O2 i))
theorem Mixed.ext {W W' : World} {B U1 U2 : Nat} {v : Value} {n : Nat} {A1 A2 : Nat → Option Addr} {C1 C2 G1 G2 O1 O2 : Nat → Nat} {k : Nat} {t : Tbl} (h : Mixed W B U1 U2 v n A1 A2 C1 C2 G1 G2 O1 O2 k t) (hE : Ext W W') : Mixed W' B U1 U2 v n A1 A2 C1 C2 G1 G2 O1 O2 k t := by
  obtain ⟨A, C, G, O, h1, h2⟩ := h
  exact ⟨A, C, G, O, h1.ext hE, h2⟩
theorem Mixed.more {W : World} {B U1 U2 : Nat} {v : Value} {n : Nat} {A1 A2 : Nat → Option Addr} {C1 C2 G1 G2 O1 O2 : Nat → Nat} {k : Nat} {t : Tbl} (h : Mixed W B U1 U2 v n A1 A2 C1 C2 G1 G2 O1 O2 k t) : Mixed W B U1 U2 v n A1 A2 C1 C2 G1 G2 O1 O2 (k + 1) t := by
  obtain ⟨A, C, G, O, h1, h2⟩ := h
  exact ⟨A, C, G, O, h1, fun i hi => (h2 i hi).imp id (fun h => ⟨by omega, h.2⟩)⟩
/-- row k of the second table laid in -/
theorem Mixed.lay {W : World} {B U1 U2 B2 g cap m : Nat} {v2 : Value} {n : Nat} {A1 A2 : Nat → Option Addr} {C1 C2 G1 G2 O1 O2 : Nat → Nat} {k : Nat} {t s : Tbl} (h : Mixed W B U1 U2 (.slice (some ⟨g, 0, none⟩) n cap) n A1 A2 C1 C2 G1 G2 O1 O2 k t)
    (h1 : ∀ i, i < n → 0 < m → G1 i < U1) (hn : t.length = n) (hs : OwnL 31 W B2 U2 v2 A2 C2 G2 O2 s) (hsn : s.length = n) (hm : ∀ i, i < n → (row t i).length = m) (hsm : ∀ i, i < n → (row s i).length = m) (hB : B ≤ B2) (hU : U1 ≤ B2) (hg : g < U1) (hk : k < n) :
    Mixed (W.setCell ⟨g, k, none⟩ (.slice (A2 k) m (C2 k))) B U1 U2 (.slice (some ⟨g, 0, none⟩) n cap) n A1 A2 C1 C2 G1 G2 O1 O2 (k + 1) (t.set k (row s k)) := by
  obtain ⟨A, C, G, O, hL, hc⟩ := h
  have hrow : RowAt W B U2 (.slice (some ⟨g, 0, none⟩) n cap) (A2 k) (G2 k) (O2 k) (row s k) := fun h0 => by
    obtain ⟨k1, k2, k3, _, k5⟩ := hs.rows k (by omega) h0
    exact ⟨k1, by omega, k3, by simp [Value.ownBlock]; omega, k5⟩
  have hap : ∀ q, q < t.length → q ≠ k → 0 < (row s k).length → 0 < (row t q).length → Apart (G2 k) (O2 k) (row s k).length (G q) (O q) (row t q).length := fun q hq hne h0 hq0 => by
    have hqn : q < n := by omega
    rw [hsm k hk, hm q hqn] at *
    rcases hc q hqn with ⟨_, _, e3, _⟩ | ⟨_, _, _, e3, e4⟩
    · obtain ⟨_, k2, _, _, _⟩ := hs.rows k (by omega) (by rw [hsm k hk]; exact h0)
      have := h1 q hqn h0
      rw [e3]
      exact .inl (by omega)
    · rw [e3, e4]
      have := hs.apart k q (by omega) (by omega) (Ne.symm hne) (by rw [hsm k hk]; exact h0) (by rw [hsm q hqn]; exact h0)
      rw [hsm k hk, hsm q hqn] at this
      exact this
  have := hL.setRow (l := row s k) (a := A2 k) (c := C2 k) (g0 := G2 k) (o0 := O2 k) (i := k) (by omega) rfl hrow hap
  rw [hsm k hk] at this
  refine ⟨_, _, _, _, this, fun i hi => ?_⟩
  by_cases e : i = k
  · subst e
    exact .inr ⟨by omega, updF_at _ _ _, updF_at _ _ _, updF_at _ _ _, updF_at _ _ _⟩
  · rw [updF_ne A _ e, updF_ne C _ e, updF_ne G _ e, updF_ne O _ e]
    exact (hc i hi).imp id (fun h => ⟨by omega, h.2⟩)

theorem ints_setOther {W : World} {a : Option Addr} {l : List Int} {g i : Nat} {u : Value} (h : Ints W a l) (hg : ∀ b o s, a = some ⟨b, o, s⟩ → b ≠ g) : Ints (W.setCell ⟨g, i, none⟩ u) a l := fun j hj => by
  obtain ⟨b, off, rfl, hb, hc⟩ := h j hj
  exact ⟨b, off, rfl, by simpa using hb, (World.cell?_setCell_other W _ _ _ (fun e => by injection e with e _; exact hg b off none rfl e.symm)).trans hc⟩
theorem OwnL.setLow {T : TypeId} {W : World} {B U : Nat} {v : Value} {A : Nat → Option Addr} {C G O : Nat → Nat} {t : Tbl} {g i : Nat} {u : Value} (h : OwnL T W B U v A C G O t) (hg : g < B) : OwnL T (W.setCell ⟨g, i, none⟩ u) B U v A C G O t :=
  ⟨by simpa using h.upto, row_set_other h.own (row_far h.own hg) _ _, h.blk, fun k hk h0 => by
    obtain ⟨h1, h2, h3, h4, h5⟩ := h.rows k hk h0
    refine ⟨h1, h2, h3, h4, fun j hj => ⟨(World.cell?_setCell_other W _ _ _ (fun e => by injection e with e _; omega)).trans (h5 j hj).1, by rw [World.frozen?_setCell]; exact (h5 j hj).2⟩⟩, h.apart⟩
set_option maxRecDepth 20000 in
set_option maxHeartbeats 8000000 in
theorem f121_c (a ax : Option Addr) (n m c ca : Nat) (x : List Int) (t : Tbl) (w : World) (hl : Table w a t) (H0 : TOk n m 0 150000 t) (hx : Ints w ax x) (hxn : x.length = n) (hxb : ∀ j, j < n → 0 ≤ gi x j ∧ gi x j ≤ 30) :
    Calls Try.prog 121 #[.slice a n c, .slice ax n ca] w (RetT 31 (cutR n m t x) w) := by
  have hn5 := H0.n5
  have hm5 := H0.m5
  have hn1 := H0.n1
  have hm1 := H0.m1
  have HT := Lib.hid H0
  have hlen := H0.len
  have Hz := Lib.hid (cutTo_zero (x := x) H0)
  have Hxb := Lib.hid hxb
  have C21 := Lib.hid (f21_c a n c t w hl hlen (by omega) (fun j hj => by have := H0.cols j (by omega); rw [row_at hj] at this; omega))
  have C70 := Lib.hid (fun W (h : Ext w W) => f70_c a ax n c ca m t x W (hl.ext h) (H0.weak (by omega)) (hx.ext h) hxn (by rw [hxn]; exact hxb))
  have C120 := Lib.hid (fun W (h : Ext w W) => f120_c a ax n m c ca x t W (hl.ext h) (H0.weak (by omega)) (hx.ext h) hxn hxb)
  have hsl : (fitR n m t x).length = n := mk_len _ _ _
  have hsc : ∀ i, i < n → (row (fitR n m t x) i).length = m := fun i hi => mk_cols _ hi
  have hll := lackR_len x t n
  have Hlg := Lib.hid (fun k (hk : k < n) => (gi_lackR hk : gi (lackR x t n) k = gi x k * 1000 - sm (row t k)))
  have Hlb := Lib.hid (fun k (hk : k < n) => sm_bd H0 hk)
  have Hct := Lib.hid (fun k (hk : k < n) (h : lr x t k < 0) => cutTo_take (m := m) hk h)
  have Hcs := Lib.hid (fun k (h : ¬ lr x t k < 0) => cutTo_skip (n := n) (m := m) h)
  have Hca := Lib.hid (cutTo_all (n := n) (m := m) (t := t) (x := x))
  have Hcl := Lib.hid (fun k => cutTo_len n m t x k)
  have Hcc := Lib.hid (fun k i (hi : i < n) => cutTo_cols (m := m) (t := t) (x := x) (k := k) hi)
  have Hsl := Lib.hid hsl
  have Hsc := Lib.hid hsc
  have Hlen := Lib.hid hlen
  have Hll := Lib.hid hll
  clear H0 hxb hsc hsl hlen hll hxn hl hx
  go_enter Try.func121, Try.ntmps121
  go_wp2_with fail
  refine C21.out.mono ?_
  rintro e w1 ⟨v1, rfl, ⟨A1, C1, G1, O1, HL1⟩, hE1⟩
  obtain ⟨g, cap, hv, hgB, hgU, _⟩ := HL1.top (i := 0) (by rw [Hlen.out]; omega)
  rw [Hlen.out] at hv
  subst hv
  have HL1 := Lib.hid HL1
  go_wp2_with fail
  refine (C70.out _ hE1).mono ?_
  rintro e w2 ⟨v2, rfl, ⟨A2, C2, G2, O2, HL2⟩, hE2⟩
  obtain ⟨g2, cap2, hv, hgB2, hgU2, _⟩ := HL2.top (i := 0) (by rw [Hsl.out]; omega)
  rw [Hsl.out] at hv
  subst hv
  have HL2 := Lib.hid HL2
  have hX2 := hE1.trans' hE2
  go_wp2_with fail
  refine (C120.out _ hX2).mono ?_
  rintro e w3 ⟨v3, rfl, hr3, hE3⟩
  rw [Hll.out] at hr3
  obtain ⟨g3, cp3, rfl, hb3, _⟩ := ownsRow_form hr3 (by omega)
  obtain ⟨a3, c3, e, hI3⟩ := ints_of_row hr3
  injection e with e e2 e3
  subst e
  clear e2 e3
  have HI3 := Lib.hid hI3
  clear hr3 hI3
  have hX3 := hX2.trans' hE3
  have hX13 := hE2.trans' hE3
  have HL2 := Lib.hid (HL2.out.ext hE3)
  have hM0 : Mixed w3 w.heap.size w1.heap.size w2.heap.size (.slice (some ⟨g, 0, none⟩) n cap) n A1 A2 C1 C2 G1 G2 O1 O2 0 (cutTo n m t x 0) := ⟨A1, C1, G1, O1, by rw [Hz.out]; exact (HL1.out.ext hX13).up hE2.size hE3.size, fun i _ => .inl ⟨rfl, rfl, rfl, rfl⟩⟩
  have HM0 := Lib.hid hM0
  have HG1 := Lib.hid (fun i (hi : i < n) (h0 : 0 < m) => ((HL1.out.rows i (by rw [Hlen.out]; exact hi) (by rw [HT.out.cols i hi]; exact h0)).2.2.1 : G1 i < w1.heap.size))
  have hsz1 := hE1.size
  have hsz2 := hE2.size
  have hsz3 := hE3.size
  clear hM0
  go_wp2_with fail
  go_loopw [8] (fun i wr => ∃ k : Nat, k ≤ n ∧ i = .int .i64 k ∧ Ext w wr ∧ w3.heap.size ≤ wr.heap.size ∧ Hid (Ints wr (some ⟨g3, 0, none⟩) (lackR x t n)) ∧ Hid (OwnL 31 wr w1.heap.size w2.heap.size (.slice (some ⟨g2, 0, none⟩) n cap2) A2 C2 G2 O2 (fitR n m t x)) ∧ Hid (Mixed wr w.heap.size w1.heap.size w2.heap.size (.slice (some ⟨g, 0, none⟩) n cap) n A1 A2 C1 C2 G1 G2 O1 O2 k (cutTo n m t x k))) (fun i _ => n - (intOf i).toNat)
  case atStart => exact ⟨0, Nat.zero_le _, rfl, hX3, Nat.le_refl _, HI3, HL2, HM0⟩
  case round =>
    obtain ⟨k, hk, rfl, hE, hs3, HI, HS, HM⟩ := hrel
    have hMo : ∀ i, i < n → wr.cell? ⟨g, i, none⟩ ≠ none ∧ wr.frozen? ⟨g, i, none⟩ = false := fun i hi => by
      obtain ⟨A, C, G, O, hL, _⟩ := HM.out
      have ho := hL.own
      rw [Hcl.out k] at ho
      exact ⟨by rw [row_cell ho (rv_at (A := A) (C := C) (by rw [Hcl.out k]; exact hi))]; simp, ho.frozenAt i⟩
    by_cases hlt : k < n
    · obtain ⟨b4, o4, e4, hb4, hc4⟩ := HI.out k (by rw [Hll.out]; exact hlt)
      simp only [Option.some.injEq, Addr.mk.injEq, and_true] at e4
      obtain ⟨rfl, rfl⟩ := e4
      rw [← gi_at, Hlg.out k hlt, Nat.zero_add] at hc4
      by_cases hneg : lr x t k < 0
      · have hd : decide (gi x k * 1000 - sm (row t k) < 0) = true := by simpa [lr] using hneg
        obtain ⟨ht, _, _, _⟩ := HS.out.spot Hsl.out rfl hlt (Hsc.out k hlt) (by omega)
        obtain ⟨u0, hu0⟩ : ∃ u0, wr.cell? ⟨g, k, none⟩ = some u0 := Option.ne_none_iff_exists'.1 (hMo k hlt).1
        have hfz := (hMo k hlt).2
        have hA2 : A2 k = some ⟨G2 k, O2 k, none⟩ := (HS.out.rows k (by rw [Hsl.out]; exact hlt) (by rw [Hsc.out k hlt]; omega)).1
        have hM := HM.out.lay HG1.out (Hcl.out k) HS.out Hsl.out (fun i hi => Hcc.out k i hi) Hsc.out hsz1 (Nat.le_refl _) hgU hlt
        rw [hA2, Hct.out k hlt hneg] at hM
        have HM2 := Lib.hid hM
        have HS2 := Lib.hid (HS.out.setLow (g := g) (i := k) (u := .slice (some ⟨G2 k, O2 k, none⟩) m (C2 k)) hgU)
        have HI2 := Lib.hid (ints_setOther (g := g) (i := k) (u := .slice (some ⟨G2 k, O2 k, none⟩) m (C2 k)) HI.out (fun b o s e => by injection e with e; injection e with e; omega))
        clear hM hneg hMo hA2
        generalize gi x k * 1000 - sm (row t k) = z at *
        go_wp2_with fail
        go_roundw
        case rel => exact ⟨k + 1, by omega, by go_num, hE.setCell (show w.heap.size ≤ g by omega) _, by simpa using hs3, HI2, HS2, HM2⟩
        case measure => simp [intOf]; omega
      · have hd : decide (gi x k * 1000 - sm (row t k) < 0) = false := by simpa [lr] using hneg
        have HM2 := Lib.hid HM.out.more
        rw [← Hcs.out k (by first | exact hneg | omega)] at HM2
        clear hneg hMo
        generalize gi x k * 1000 - sm (row t k) = z at *
        go_wp2_with fail
        go_roundw
        case rel => exact ⟨k + 1, by omega, by go_num, hE, hs3, HI, HS, HM2⟩
        case measure => simp [intOf]; omega
    · obtain rfl : k = n := by omega
      have hM := HM.out
      rw [Hca.out] at hM
      obtain ⟨A, C, G, O, hL, _⟩ := hM
      have Hf := Lib.hid (show RetT 31 (cutR k m t x) w (.returned (.slice (some ⟨g, 0, none⟩) k cap)) wr from ⟨_, rfl, ⟨A, C, G, O, hL.up hL.upto (Nat.le_refl _)⟩, hE⟩)
      clear hL
      go_wp2_with fail
      go_ret
      exact Hf.out

end Go.Proofs.Ytaidoaggmllcfaa
