/- Contracts of layer 6: the reference's kernel and fitted tables. -/
import Derived.Test.YtaidoaggmllcfaaT3
namespace Go.Proofs.Ytaidoaggmllcfaa
open Go.RowKit
attribute [local go_sem] GW.cell

/-- a table of which the first i rows, and j places of the next one, are told by f -/
def upT (n m : Nat) (f : Nat → Nat → Int) (t : Tbl) (i j : Nat) : Tbl := mk n m fun r c => if r < i ∨ (r = i ∧ c < j) then f r c else tg t r c
theorem upT_len (n m : Nat) (f : Nat → Nat → Int) (t : Tbl) (i j : Nat) : (upT n m f t i j).length = n := mk_len _ _ _
theorem upT_cols {n m : Nat} {f : Nat → Nat → Int} {t : Tbl} {i j k : Nat} (h : k < n) : (row (upT n m f t i j) k).length = m := mk_cols _ h
theorem upT_zero {n m : Nat} {f : Nat → Nat → Int} {t : Tbl} (h1 : t.length = n) (h2 : ∀ i, i < n → (row t i).length = m) : upT n m f t 0 0 = t := by
  unfold upT
  rw [mk_eq (g := tg t) (fun i j _ _ => by rw [if_neg (by omega)])]
  exact mk_of h1 h2
theorem upT_row (n m : Nat) (f : Nat → Nat → Int) (t : Tbl) (i : Nat) : upT n m f t i m = upT n m f t (i + 1) 0 := by
  unfold upT
  refine mk_eq fun r c _ hc => ?_
  by_cases h : r < i ∨ (r = i ∧ c < m)
  · rw [if_pos h, if_pos (by omega)]
  · rw [if_neg h, if_neg (by omega)]
theorem upT_full (n m : Nat) (f : Nat → Nat → Int) (t : Tbl) : upT n m f t n 0 = mk n m f := mk_eq fun r c hr _ => by rw [if_pos (by omega)]
theorem upT_self {n m : Nat} {f : Nat → Nat → Int} {t : Tbl} {i j : Nat} (hi : i < n) (hj : j < m) : tg (upT n m f t i j) i j = tg t i j := by
  unfold upT; rw [tg_mk _ hi hj, if_neg (by omega)]
theorem upT_set {n m : Nat} {f : Nat → Nat → Int} {t : Tbl} {i j : Nat} (hi : i < n) (hj : j < m) (x : Int) (hx : x = f i j) : setT (upT n m f t i j) i j x = upT n m f t i (j + 1) := by
  subst hx
  have hl : i < (upT n m f t i j).length := by rw [upT_len]; exact hi
  refine tbl_ext (by rw [setT_len, upT_len, upT_len]) (fun r hr => ?_) (fun r c hr hc => ?_)
  · rw [setT_len, upT_len] at hr; rw [cols_setT _ _ hl, upT_cols hr, upT_cols hr]
  · rw [setT_len, upT_len] at hr; rw [cols_setT _ _ hl, upT_cols hr] at hc
    rw [tg_setT _ _ hl (by rw [upT_cols hi]; exact hj)]
    unfold upT
    rw [tg_mk _ hr hc, tg_mk _ hr hc]
    by_cases h : r = i ∧ c = j
    · rw [if_pos h, if_pos (by omega), h.1, h.2]
    · rw [if_neg h]
      by_cases h2 : r < i ∨ (r = i ∧ c < j)
      · rw [if_pos h2, if_pos (by omega)]
      · rw [if_neg h2, if_neg (by omega)]
theorem setT_twice (t : Tbl) (i j : Nat) (x y : Int) : setT (setT t i j x) i j y = setT t i j y := by
  unfold setT
  by_cases h : i < t.length
  · have : row (t.set i ((row t i).set j x)) i = (row t i).set j x := by simp [row, h]
    rw [this, List.set_set, List.set_set]
  · rw [List.set_eq_of_length_le (by simp; omega), List.set_eq_of_length_le (by omega), List.set_eq_of_length_le (by omega)]

/-- all that a store into a place of the table needs -/
theorem OwnL.spot {T : TypeId} {W : World} {B U g cap n m : Nat} {v : Value} {AA : Nat → Option Addr} {C G O : Nat → Nat} {t : Tbl} (h : OwnL T W B U v AA C G O t) (hn : t.length = n) (hv : v = .slice (some ⟨g, 0, none⟩) n cap) {i : Nat} (hi : i < n) (hm : (row t i).length = m) (hm0 : 0 < m) :
    W.cell? ⟨g, i, none⟩ = some (.slice (some ⟨G i, O i, none⟩) m (C i)) ∧ B ≤ G i ∧ G i < U ∧ ∀ j, j < m → W.cell? ⟨G i, O i + j, none⟩ = some (.int .i64 (tg t i j)) ∧ W.frozen? ⟨G i, O i + j, none⟩ = false := by
  subst hn hv
  obtain ⟨h1, h2, h3, h4, h5⟩ := h.rows i hi (by omega)
  obtain ⟨g', cap', e, _, _, h6⟩ := h.top hi
  injection e with e
  injection e with e
  injection e with e
  subst e
  rw [h1, hm] at h6
  exact ⟨h6, h2, h3, fun j hj => h5 j (by omega)⟩

def powE (x s : Int) : Nat := if 12 ≤ x / s then 0 else (12 - x / s).toNat
theorem powN_bd {q : Nat} (h : q ≤ 12) : (1 : Int) ≤ 2 ^ q ∧ (2 : Int) ^ q ≤ 4096 := by have := pow_bd (d := (q : Int)) (by omega) (by omega); simpa using this
theorem powE_le {x s : Int} (hx : 0 ≤ x) (hs : 1 ≤ s) : powE x s ≤ 12 := by
  have := Int.ediv_nonneg hx (show 0 ≤ s by omega)
  unfold powE; split <;> omega
theorem kerV_eq {x s : Int} (hx : 0 ≤ x) (hs : 1 ≤ s) : kerV x s = 2 ^ powE x s := by
  have := Int.ediv_nonneg hx (show 0 ≤ s by omega)
  unfold kerV powE
  split
  · rfl
  · next h => rw [if_pos (by omega)]; have := pow_bd (d := 12 - x / s) (by omega) (by omega); unfold wrap64; omega
set_option maxRecDepth 20000 in
set_option maxHeartbeats 4000000 in
theorem f61_c (a : Option Addr) (n c : Nat) (t : Tbl) (s : Int) (w : World) (hl : Table w a t) (hn : t.length = n) (hok : tabB 0 99 t = true) (hs : 1 ≤ s ∧ s ≤ 99) :
    Calls Try.prog 61 #[.slice a n c, .int .i64 s] w (RetT 31 (kernelT t s) w) := by
  subst hn
  have H0 := tabB_ok hok
  have hn5 := H0.n5
  have hm5 := H0.m5
  have hn1 := H0.n1
  have hm1 := H0.m1
  have HT := Lib.hid H0
  unfold kernelT
  have Hcp := Lib.hid (f21_c a t.length c t w hl rfl (by omega) (fun j hj => by have := H0.cols j hj; rw [row_at hj] at this; omega))
  generalize (row t 0).length = m at *
  clear H0 hok
  go_enter Try.func61, Try.ntmps61
  go_wp2_with fail
  refine Hcp.out.mono ?_
  rintro e w1 ⟨v, rfl, ⟨A, C, G, O, HL⟩, hE1⟩
  obtain ⟨g, cap, hv, hgB, hgU, _⟩ := HL.top (i := 0) (by omega)
  subst hv
  have hsz1 := hE1.size
  have HL0 : Hid (OwnL 31 w1 w.heap.size w1.heap.size (.slice (some ⟨g, 0, none⟩) t.length cap) A C G O (upT t.length m (fun i j => kerV (tg t i j) s) t 0 0)) := Lib.hid (by rw [upT_zero rfl HT.out.cols]; exact HL)
  clear HL Hcp
  go_wp2_with fail
  go_loopw [6, 7, 8, 9] (fun i _ _ _ wr => ∃ k : Nat, k ≤ t.length ∧ i = .int .i64 k ∧ Ext w wr ∧ Hid (OwnL 31 wr w.heap.size w1.heap.size (.slice (some ⟨g, 0, none⟩) t.length cap) A C G O (upT t.length m (fun i j => kerV (tg t i j) s) t k 0))) (fun i _ _ _ _ => t.length - (intOf i).toNat)
  case atStart => exact ⟨0, Nat.zero_le _, rfl, hE1, HL0⟩
  case round =>
    obtain ⟨k, hk, rfl, hE, H⟩ := hrel
    by_cases hlt : k < t.length
    · obtain ⟨wo, rfl⟩ : ∃ wo : World, wo = wr := ⟨_, rfl⟩
      go_wp2_with fail
      go_loopw [7, 8, 9] (fun j _ _ wr => ∃ q : Nat, q ≤ m ∧ j = .int .i64 q ∧ Ext w wr ∧ Hid (OwnL 31 wr w.heap.size w1.heap.size (.slice (some ⟨g, 0, none⟩) t.length cap) A C G O (upT t.length m (fun i j => kerV (tg t i j) s) t k q))) (fun j _ _ _ => m - (intOf j).toNat)
      case atStart => exact ⟨0, Nat.zero_le _, rfl, hE, H⟩
      case round =>
        obtain ⟨q, hq, rfl, hE3, H3⟩ := hrel
        obtain ⟨ht, hB, hU, hcs⟩ := H3.out.spot (upT_len _ _ _ _ _ _) rfl hlt (upT_cols hlt) (by omega)
        have hup := H3.out.upto
        by_cases hlq : q < m
        · obtain ⟨b1, o1, a1, c1, rfl, hb1, hc1, hI1⟩ := hl.ext hE3 k hlt
          have hmk := HT.out.cols k hlt
          rw [row_at hlt] at hmk
          obtain ⟨b2, o2, rfl, hb2, hc2⟩ := hI1 q (by omega)
          rw [← gi_at, ← row_at hlt] at hc2
          rw [hmk] at hc1
          have hbd := HT.out.bd k q hlt hlq
          have hcell := (hcs q hlq).1
          have hfz := (hcs q hlq).2
          rw [upT_self hlt hlq] at hcell
          have hst := H3.out.store (i := k) (j := q) (by rw [upT_len]; exact hlt) (by rw [upT_cols hlt]; exact hlq) (kerV (tg t k q) s)
          rw [upT_set hlt hlq _ rfl] at hst
          rw [kerV_eq hbd.1 hs.1] at hst
          have he := powE_le hbd.1 hs.1
          have hbd2 : 0 ≤ gi (row t k) q ∧ gi (row t k) q ≤ 99 := hbd
          have hd0 := Int.ediv_nonneg hbd2.1 (show 0 ≤ s by omega)
          have hpe : Hid ((12 : Int) - powE (gi (row t k) q) s = if gi (row t k) q / s < 12 then gi (row t k) q / s else 12) := Lib.hid (by unfold powE; split <;> split <;> omega)
          have hx : tg t k q = gi (row t k) q := rfl
          rw [hx] at hst he hcell
          have Hst := Lib.hid hst
          clear hst hbd hx hmk hI1 hcs
          generalize gi (row t k) q = x at *
          generalize powE x s = e at *
          obtain ⟨W3, rfl⟩ : ∃ W3 : World, W3 = wr := ⟨_, rfl⟩
          go_wp2_with fail
          all_goals
            go_loop [8, 9] (fun u p => ∃ z : Nat, z ≤ e ∧ p = .int .i64 (12 - (e : Int) + z) ∧ u = .int .i64 (2 ^ z)) (fun _ p => (12 - intOf p).toNat)
            case atStart =>
              refine ⟨0, Nat.zero_le _, ?_, rfl⟩
              refine congrArg (Value.int .i64) ?_
              have h := hpe.out
              by_cases hh : x / s < 12
              · rw [if_pos hh] at h; (try rw [if_pos hh]); omega
              · rw [if_neg (by omega)] at h; (try rw [if_neg (by omega)]); omega
            case round =>
              obtain ⟨z, hz, rfl, rfl⟩ := hrel
              have hzb := powN_bd (q := z) (by omega)
              by_cases hlz : z < e
              · have hd : decide ((12 : Int) - (e : Int) + (z : Int) < 12) = true := by simp; omega
                have Hz : Hid ((2 : Int) ^ (z + 1) = 2 ^ z * 2) := Lib.hid (Int.pow_succ 2 z)
                generalize (2 : Int) ^ z = y at *
                go_wp2_with fail
                go_round
                case rel => exact ⟨z + 1, by omega, by go_num, by rw [Hz.out]⟩
                case measure => simp [intOf]; omega
              · obtain rfl : z = e := by omega
                have hd : decide ((12 : Int) - (z : Int) + (z : Int) < 12) = false := by simp
                generalize (2 : Int) ^ z = y at *
                go_wp2_with fail
                go_roundw
                case rel => exact ⟨q + 1, by omega, by go_num, hE3.setCell hB _, Hst⟩
                case measure => simp [intOf]; omega
        · obtain rfl : q = m := by omega
          rw [upT_row] at H3
          go_wp2_with fail
          go_roundw
          case rel => exact ⟨k + 1, by omega, by go_num, hE3, H3⟩
          case measure => simp [intOf]; omega
    · obtain rfl : k = t.length := by omega
      rw [upT_full] at H
      have Hf := Lib.hid (show RetT 31 (mk t.length m fun i j => kerV (tg t i j) s) w (.returned (.slice (some ⟨g, 0, none⟩) t.length cap)) wr from ⟨_, rfl, ⟨A, C, G, O, H.out.up H.out.upto (Nat.le_refl _)⟩, hE⟩)
      go_wp2_with fail
      go_ret
      exact Hf.out

/-- rows, or columns, scaled to masses in grains -/
def fitR (n m : Nat) (t : Tbl) (a : List Int) : Tbl := mk n m fun i j => shareV (tg t i j) (gi a i) (sm (row t i))
theorem sm_bd {n m : Nat} {hi : Int} {t : Tbl} (h : TOk n m 0 hi t) {i : Nat} (hi' : i < n) : 0 ≤ sm (row t i) ∧ sm (row t i) ≤ m * hi := by
  have hc := h.cols i hi'
  have := smTo_bd (l := row t i) (M := hi) (fun j hj => h.bd i j hi' (by omega)) m (by omega)
  unfold sm; rw [hc]; exact this
theorem mul_bd {x y X Y : Int} (h : 0 ≤ x ∧ x ≤ X) (k : 0 ≤ y ∧ y ≤ Y) : 0 ≤ x * y ∧ x * y ≤ X * Y :=
  ⟨Int.mul_nonneg h.1 k.1, Int.mul_le_mul h.2 k.2 k.1 (Int.le_trans h.1 h.2)⟩
set_option maxRecDepth 20000 in
set_option maxHeartbeats 4000000 in
theorem f70_c (a b : Option Addr) (n c c2 m : Nat) (t : Tbl) (l : List Int) (w : World) (hl : Table w a t) (H0 : TOk n m 0 1000000 t) (hb : Ints w b l) (hln : l.length = n) (hlb : ∀ j, j < l.length → 0 ≤ gi l j ∧ gi l j ≤ 30) :
    Calls Try.prog 70 #[.slice a n c, .slice b n c2] w (RetT 31 (fitR n m t l) w) := by
  have hn := H0.len
  subst hn
  have hn5 := H0.n5
  have hm5 := H0.m5
  have hn1 := H0.n1
  have hm1 := H0.m1
  have HT := Lib.hid H0
  have Hlb := Lib.hid hlb
  unfold fitR
  have Hcp := Lib.hid (f21_c a t.length c t w hl rfl (by omega) (fun j hj => by have := H0.cols j hj; rw [row_at hj] at this; omega))
  clear H0 hlb
  go_enter Try.func70, Try.ntmps70
  go_wp2_with fail
  refine Hcp.out.mono ?_
  rintro e w1 ⟨v, rfl, ⟨A, C, G, O, HL⟩, hE1⟩
  obtain ⟨g, cap, hv, hgB, hgU, _⟩ := HL.top (i := 0) (by omega)
  subst hv
  have hsz1 := hE1.size
  have HL0 : Hid (OwnL 31 w1 w.heap.size w1.heap.size (.slice (some ⟨g, 0, none⟩) t.length cap) A C G O (upT t.length m (fun i j => shareV (tg t i j) (gi l i) (sm (row t i))) t 0 0)) := Lib.hid (by rw [upT_zero rfl HT.out.cols]; exact HL)
  clear HL Hcp
  go_wp2_with fail
  go_loopw [6, 7, 8] (fun i _ _ wr => ∃ k : Nat, k ≤ t.length ∧ i = .int .i64 k ∧ Ext w wr ∧ Hid (OwnL 31 wr w.heap.size w1.heap.size (.slice (some ⟨g, 0, none⟩) t.length cap) A C G O (upT t.length m (fun i j => shareV (tg t i j) (gi l i) (sm (row t i))) t k 0))) (fun i _ _ _ => t.length - (intOf i).toNat)
  case atStart => exact ⟨0, Nat.zero_le _, rfl, hE1, HL0⟩
  case round =>
    obtain ⟨k, hk, rfl, hE, H⟩ := hrel
    by_cases hlt : k < t.length
    · obtain ⟨b1, o1, a1, c1, e1, hb1, hcw, hIw⟩ := hl k hlt
      subst e1
      have hc1 := (hE.cell' hb1).trans hcw
      have hI1 := hIw.ext hE
      have hmk := HT.out.cols k hlt
      have Cs := f96_c a1 t[k].length c1 t[k] wr hI1 rfl (by rw [row_at hlt] at hmk; omega) (fun j hj => by have := HT.out.bd k j hlt (by rw [row_at hlt] at hmk; omega); unfold tg at this; rw [row_at hlt] at this; omega)
      have hsb := sm_bd HT.out hlt
      have hsb2 : sm (row t k) ≤ 5000000 := by have : (m : Int) * 1000000 ≤ 5 * 1000000 := Int.mul_le_mul_of_nonneg_right (by omega) (by omega); omega
      have hsb1 := hsb.1
      have hF : Hid (∀ q, q < m → shareV (tg t k q) (gi l k) (sm (row t k)) = if sm (row t k) = 0 then 0 else tg t k q * gi l k * 1000 / sm (row t k)) := Lib.hid (fun q _ => rfl)
      rw [row_at hlt] at hmk
      rw [← row_at hlt] at Cs
      rw [row_at hlt, hmk] at Cs
      rw [← row_at hlt] at Cs
      rw [hmk] at hc1 hcw
      have Cs := Lib.hid Cs
      have Hm := Lib.hid hmk
      have Hbd := Lib.hid (fun j (hj : j < m) => HT.out.bd k j hlt hj)
      clear hmk hsb
      have HS : Hid (sm (row t k) = sm (row t k)) := Lib.hid rfl
      obtain ⟨wo, rfl⟩ : ∃ wo : World, wo = wr := ⟨_, rfl⟩
      obtain ⟨s, hs⟩ : ∃ s, sm (row t k) = s := ⟨_, rfl⟩
      rw [hs] at Cs hsb2 hsb1 hF
      have Hs := Lib.hid hs
      clear hs HS
      go_wp2_with (go_at_call 96; refine Cs.out.mono ?_; rintro e w' ⟨rfl, rfl⟩)
      go_loopw [8] (fun j wr => ∃ q : Nat, q ≤ m ∧ j = .int .i64 q ∧ Ext w wr ∧ Hid (OwnL 31 wr w.heap.size w1.heap.size (.slice (some ⟨g, 0, none⟩) t.length cap) A C G O (upT t.length m (fun i j => shareV (tg t i j) (gi l i) (sm (row t i))) t k q))) (fun j _ => m - (intOf j).toNat)
      case atStart => exact ⟨0, Nat.zero_le _, rfl, hE, H⟩
      case round =>
        obtain ⟨q, hq, rfl, hE3, H3⟩ := hrel
        obtain ⟨ht, hB, hU, hcs⟩ := H3.out.spot (upT_len _ _ _ _ _ _) rfl hlt (upT_cols hlt) (by omega)
        have hup := H3.out.upto
        have hc3 := (hE3.cell' hb1).trans hcw
        by_cases hlq : q < m
        · obtain ⟨b2, o2, rfl, hb2, hc2⟩ := hIw.ext hE3 q (by have := Hm.out; omega)
          rw [← gi_at, ← row_at hlt] at hc2
          have hcell := (hcs q hlq).1
          have hfz := (hcs q hlq).2
          have hi2 : k < (upT t.length m (fun i j => shareV (tg t i j) (gi l i) (sm (row t i))) t k q).length := by rw [upT_len]; exact hlt
          have hj2 : q < (row (upT t.length m (fun i j => shareV (tg t i j) (gi l i) (sm (row t i))) t k q) k).length := by rw [upT_cols hlt]; exact hlq
          have hst := H3.out.store hi2 hj2 0
          by_cases h0 : s = 0
          · have hd : decide (0 < s) = false := by simp; omega
            rw [upT_set hlt hlq 0 (by rw [Hs.out, hF.out q hlq, if_pos h0])] at hst
            have Hst := Lib.hid hst
            clear hst hcs h0
            go_wp2_with fail
            go_roundw
            case rel => exact ⟨q + 1, by omega, by go_num, hE3.setCell hB _, Hst⟩
            case measure => simp [intOf]; omega
          · have hd : decide (0 < s) = true := by simp; omega
            have hbd := Hbd.out q hlq
            have hX : Ext w (wr.setCell ⟨G k, O k + q, none⟩ (.int .i64 0)) := hE3.setCell hB _
            obtain ⟨b4, o4, rfl, hb4, hc4⟩ := (hb.ext hX) k (by omega)
            rw [← gi_at] at hc4
            have hlk := Hlb.out k (by omega)
            have hpr := mul_bd hbd hlk
            have hv := hF.out q hlq
            rw [if_neg h0] at hv
            have hq0 := Int.ediv_nonneg (a := tg t k q * gi l k * 1000) (b := s) (by omega) (by omega)
            have hq1 := Int.ediv_le_self (a := tg t k q * gi l k * 1000) s (by omega)
            have Hset := Lib.hid (upT_set (f := fun i j => shareV (tg t i j) (gi l i) (sm (row t i))) (t := t) hlt hlq (tg t k q * gi l k * 1000 / s) (by rw [Hs.out, hv]))
            obtain ⟨ht2, _, _, hcs2⟩ := hst.spot (by rw [setT_len, upT_len]) rfl hlt (by rw [cols_setT _ _ hi2, upT_cols hlt]) (by omega)
            have hc5 := (hX.cell' hb1).trans hcw
            have hc6 := (hIw.ext hX) q (by have := Hm.out; omega)
            obtain ⟨b6, o6, e6, hb6, hc6⟩ := hc6
            simp only [Option.some.injEq, Addr.mk.injEq, and_true] at e6
            obtain ⟨rfl, rfl⟩ := e6
            rw [← gi_at, ← row_at hlt] at hc6
            have hfz2 := (hcs2 q hlq).2
            have hcell2 := (hcs2 q hlq).1
            have Hst := Lib.hid hst
            have Hi2 := Lib.hid hi2
            have Hj2 := Lib.hid hj2
            have hx : tg t k q = gi (row t k) q := rfl
            rw [hx] at hpr hbd Hset hq0 hq1
            have hs1 : 1 ≤ s := by omega
            clear hst hcs hcs2 hv hx hi2 hj2
            generalize gi (row t k) q = x at *
            generalize gi l k = y at *
            have hU2 := Hst.out.upto
            go_wp2_with fail
            generalize hW : wr.setCell ⟨G k, O k + q, none⟩ (.int .i64 0) = W2 at *
            clear hW
            have z1 : g < W2.heap.size := by omega
            have z2 : b1 < W2.heap.size := Nat.lt_of_lt_of_le hb1 hX.size
            have z3 : G k < W2.heap.size := by omega
            refine wp_region_ext_tail 21 (by kernel_rfl) (by kernel_rfl) ?_
            simp only [List.take_succ_cons, List.take_zero, List.drop_succ_cons, List.drop_zero]
            repeat (go_big_quiet_step (fail))
            refine wpQuiet_nil ?_
            intro w3 hX3
            have HL3 := Lib.hid (Hst.out.ext hX3)
            have hX4 := hX.trans' hX3
            obtain ⟨_, _, _, hcs3⟩ := HL3.out.spot (by rw [setT_len, upT_len]) rfl hlt (by rw [cols_setT _ _ Hi2.out, upT_cols hlt]) (by omega)
            have hfz3 := (hcs3 q hlq).2
            have hcell3 := (hcs3 q hlq).1
            clear hcs3 hc5 hc6 hc4 hc2 ht ht2 hcell hcell2 hfz hfz2 hc1 hc3
            have hst3 := HL3.out.store (i := k) (j := q) (by rw [setT_len]; exact Hi2.out) (by rw [cols_setT _ _ Hi2.out]; exact Hj2.out) (x * y * 1000 / s)
            rw [setT_twice, Hset.out] at hst3
            have Hst3 := Lib.hid hst3
            clear hst3
            go_wp2_with fail
            go_roundw
            case rel => exact ⟨q + 1, by omega, by go_num, hX4.setCell hB _, Hst3⟩
            case measure => simp [intOf]; omega
        · obtain rfl : q = m := by omega
          rw [upT_row] at H3
          go_wp2_with fail
          go_roundw
          case rel => exact ⟨k + 1, by omega, by go_num, hE3, H3⟩
          case measure => simp [intOf]; omega
    · obtain rfl : k = t.length := by omega
      rw [upT_full] at H
      have Hf := Lib.hid (show RetT 31 (mk t.length m fun i j => shareV (tg t i j) (gi l i) (sm (row t i))) w (.returned (.slice (some ⟨g, 0, none⟩) t.length cap)) wr from ⟨_, rfl, ⟨A, C, G, O, H.out.up H.out.upto (Nat.le_refl _)⟩, hE⟩)
      go_wp2_with fail
      go_ret
      exact Hf.out

end Go.Proofs.Ytaidoaggmllcfaa
