/- Contracts of cells: Least of the reference. -/
import Derived.Test.YtodlbgncdggimaaT44
namespace Go.Proofs.Ytodlbgncdggimaa
open Go.RowKit
attribute [local go_sem] GW.cell Oper.semAt_some wide_depth
/-- owners as the shares say, site after site -/
def bldL (S : List Int) : Nat → List Int
  | 0 => []
  | i + 1 => bldL S i ++ List.replicate (gi S i).toNat (i : Int)
theorem cntO_pre {A C : List Int} (j : Nat) : ∀ m, m ≤ A.length → cntO (oF (A ++ C)) j m = cntO (oF A) j m
  | 0, _ => rfl
  | m + 1, h => by
    simp only [cntO]
    rw [cntO_pre j m (by omega)]
    have e : oF (A ++ C) m = oF A m := by unfold oF gi; rw [List.getElem?_append_left (by omega)]
    rw [e]
theorem cntO_rep (A : List Int) (i j : Nat) : ∀ k : Nat, cntO (oF (A ++ List.replicate k (i : Int))) j (A.length + k) = cntO (oF A) j A.length + if i = j then (k : Int) else 0
  | 0 => by simp
  | k + 1 => by
    have h1 := cntO_rep A i j k
    rw [show A.length + (k + 1) = (A.length + k) + 1 by omega]
    simp only [cntO]
    have e1 : A ++ List.replicate (k + 1) (i : Int) = (A ++ List.replicate k (i : Int)) ++ [(i : Int)] := by rw [List.replicate_succ', List.append_assoc]
    rw [e1, cntO_pre j (A.length + k) (by simp), h1]
    have e2 : oF ((A ++ List.replicate k (i : Int)) ++ [(i : Int)]) (A.length + k) = i := by
      unfold oF gi
      rw [List.getElem?_append_right (by simp)]
      simp
    rw [e2]
    by_cases e : i = j
    · rw [if_pos e, if_pos e]; omega
    · rw [if_neg e, if_neg e]; omega
theorem bldL_len {S : List Int} : ∀ i, i ≤ S.length → (∀ j, j < S.length → 0 ≤ gi S j) → ((bldL S i).length : Int) = (S.take i).sum
  | 0, _, _ => by simp [bldL]
  | i + 1, hi, h => by
    have h1 := bldL_len i (by omega) h
    have h2 := h i (by omega)
    rw [bldL, List.length_append, List.length_replicate, Int.natCast_add, h1, List.take_succ_eq_append_getElem (by omega), List.sum_append, ← gi_at (by omega)]
    simp; omega
theorem bldL_own {S : List Int} {n : Nat} : ∀ i, i ≤ n → OwnIn (bldL S i) n
  | 0, _ => fun j hj => by simp [bldL] at hj
  | i + 1, hi => fun j hj => by
    have h1 := bldL_own (S := S) (n := n) i (by omega)
    by_cases hl : j < (bldL S i).length
    · obtain ⟨q, a, b⟩ := h1 j hl
      exact ⟨q, by rw [← a]; simp only [bldL]; rw [List.getElem_append_left hl], b⟩
    · refine ⟨i, ?_, by omega⟩
      simp only [bldL]
      rw [List.getElem_append_right (by omega)]
      simp
theorem bldL_cnt {S : List Int} (h : ∀ j, j < S.length → 0 ≤ gi S j) : ∀ i, i ≤ S.length → ∀ j, cntO (oF (bldL S i)) j (bldL S i).length = if j < i then gi S j else 0
  | 0, _, j => by simp [bldL, cntO]
  | i + 1, hi, j => by
    have h1 := bldL_cnt h i (by omega) j
    have h2 := h i (by omega)
    rw [bldL, List.length_append, List.length_replicate, cntO_rep, h1]
    by_cases e : i = j
    · subst e
      have a1 : ¬ i < i := by omega
      have a2 : i < i + 1 := by omega
      rw [if_neg a1, if_pos rfl, if_pos a2]; omega
    · rw [if_neg e]
      by_cases e2 : j < i
      · have a2 : j < i + 1 := by omega
        rw [if_pos e2, if_pos a2]; omega
      · have a2 : ¬ j < i + 1 := by omega
        rw [if_neg e2, if_neg a2]; omega
/-- owners with the shares -/
structure ShCnt (l : List Site) (wd ht : Nat) (S O : List Int) : Prop where
  len : O.length = wd * ht
  own : OwnIn O l.length
  cnt : ∀ i, i < l.length → cntO (oF O) i (wd * ht) = gi S i
theorem ShCnt.better {l : List Site} {wd ht : Nat} {S O O2 : List Int} (h : ShCnt l wd ht S O) (hb : Better l wd ht O O2) : ShCnt l wd ht S O2 :=
  ⟨hb.len.trans h.len, hb.own, fun i hi => by rw [← h.len, hb.cnt i, h.len]; exact h.cnt i hi⟩
theorem ShCnt.share {l : List Site} {wd ht : Nat} {S O : List Int} (h : ShCnt l wd ht S O) (hf : ∃ p, FitsTo (dC l wd) (oF O) (wd * ht) l.length p) : ShareOf l wd ht S O := ⟨h.len, h.own, hf, h.cnt⟩
set_option maxRecDepth 20000 in
set_option maxHeartbeats 16000000 in
theorem f52_c (a b : Option Addr) (n c m d : Nat) (l : List Site) (S : List Int) (x y : Int) (w : World) (hl : Sites w a l) (hS : Ints w b S) (hn : l.length = n) (hm : S.length = m) (hlen : n ≤ 140737488355328) (hlm : m ≤ 140737488355328) :
    Calls Try.prog 52 #[.slice a n c, .int .i64 x, .int .i64 y, .slice b m d] w (RetLst l x y S w) := by
  have hc := f83_c a b n c m d l S x y w hl hS hn hm hlen hlm
  rcases errOf_cases2 (okShared l x y S) with ⟨hok, he⟩ | ⟨hok, he⟩
  · obtain ⟨hF, s2, s3, s4⟩ := shared_spec.1 hok
    obtain ⟨h0, h1, h2, h3, h4⟩ := okField_bd hF
    have hR : ∀ v w', Ext w w' → (∃ O, ShareOf l x.toNat y.toNat S O ∧ v = costTo l x.toNat O (x.toNat * y.toNat)) → RetLst l x y S w (.returned (.tuple #[.int .i64 v, .int .i64 0])) w' := fun v w' hE h => ⟨v, by rw [he], ⟨fun h => by rw [hok] at h; simp at h, fun _ => h⟩, hE⟩
    rw [he] at hc
    obtain ⟨wd, rfl⟩ := Int.eq_ofNat_of_zero_le (a := x) (by omega)
    obtain ⟨ht, rfl⟩ := Int.eq_ofNat_of_zero_le (a := y) (by omega)
    have hcell : CellOk l wd ht := ⟨h0, by omega, by omega, by omega⟩
    have hn5 := hcell.n
    have hpx := hcell.pix
    have hN1 : 1 ≤ wd * ht := Nat.mul_pos (by omega) (by omega)
    have hgS : ∀ j, j < S.length → 0 ≤ gi S j := fun j hj => by rw [gi_at hj]; exact s3 j hj
    have hsum : S.sum = (wd * ht : Nat) := by rw [s4]; simp
    have hbl : (bldL S l.length).length = wd * ht := by
      have := bldL_len (S := S) l.length (by omega) hgS
      rw [List.take_of_length_le (by omega), hsum] at this
      exact Int.ofNat.inj this
    have Hsc : Hid (ShCnt l wd ht S (bldL S l.length)) := Lib.hid ⟨hbl, bldL_own l.length (Nat.le_refl _), fun i hi => by
      have := bldL_cnt hgS l.length (by omega) i
      rw [hbl, if_pos hi] at this; exact this⟩
    have Hbb : Hid (∀ i, i < l.length → (gi S i).toNat ≤ 144 ∧ (bldL S i).length + (gi S i).toNat ≤ 1000 ∧ gi S i = ((gi S i).toNat : Int)) := Lib.hid (fun i hi => by
      have e := shared_elem hok (k := i) (by omega)
      rw [← gi_at (by omega)] at e
      have e2 := bldL_len (S := S) i (by omega) hgS
      have e3 := take_le (fun j hj => s3 j hj) i (S.length - i) (by omega)
      have e4 : ((wd : Int) * ht) = ((wd * ht : Nat) : Int) := by simp
      rw [hsum] at e3
      rw [e4] at e
      omega)
    have Hc := Lib.hid hc
    have H0 := Lib.hid h0
    have HR := Lib.hid hR
    have Hcell := Lib.hid hcell
    have Hbl := Lib.hid hbl
    have Hsl := Lib.hid s2
    have hw1 := hcell.w1
    have hw2 := hcell.w2
    obtain ⟨i0, hi0⟩ := info_p info3'
    have Hi := Lib.hid hi0
    have hSz : ∀ i, i < l.length → i < S.length := fun i hi => by omega
    have HSz := Lib.hid hSz
    clear hc he hok hF h0 hR s2 s3 s4 hcell hgS hsum hbl hi0 hSz
    subst hn hm
    go_enter Try.func52, Try.ntmps52
    go_wp2_with fail
    refine Hc.out.mono ?_
    rintro e w1 ⟨rfl, hE1⟩
    clear Hc
    go_wp2_with fail
    go_loopw [11, 12] (fun v11 v12 wr => ∃ i : Nat, i ≤ l.length ∧ v12 = .int .i64 i ∧ Ext w1 wr ∧ Hid (wr.ownsRow w1.heap.size 3 1 v11 (bldL S i).length ((bldL S i).map (.int .i64)))) (fun _ v12 _ => l.length - (intOf v12).toNat)
    case atStart => exact ⟨0, Nat.zero_le _, rfl, Ext.rfl' _, Lib.hid (World.ownsRow_nil _ _ _ _)⟩
    case round =>
      obtain ⟨i, hi, rfl, hX, HO⟩ := hrel
      have hE2 := hE1.trans' hX
      by_cases hli : i < l.length
      case pos =>
        obtain ⟨b1, b2, b3⟩ := Hbb.out i hli
        have hiS := HSz.out i hli
        obtain ⟨bs, os, es, hbs, hcs⟩ := hS i hiS
        subst es
        rw [gi_def, b3] at hcs
        obtain ⟨a11, k11, e11⟩ := slice_form HO.out
        subst e11
        have HO0 : Hid (wr.ownsRow w1.heap.size 3 1 (.slice a11 (bldL S i).length k11) ((bldL S i).length + 0) ((bldL S i ++ List.replicate 0 (i : Int)).map (.int .i64))) := Lib.hid (by simpa using HO.out)
        have Hnx : Hid (bldL S (i + 1) = bldL S i ++ List.replicate (gi S i).toNat (i : Int)) := Lib.hid rfl
        clear b3 HO
        generalize (gi S i).toNat = K at *
        generalize hbi : bldL S i = Bi at *
        have Hbi := Lib.hid hbi
        clear hbi
        go_wp2_with fail
        go_loopw [11, 13] (fun v11 v13 wr => ∃ k : Nat, k ≤ K ∧ v13 = .int .i64 k ∧ Ext w1 wr ∧ Hid (wr.ownsRow w1.heap.size 3 1 v11 (Bi.length + k) ((Bi ++ List.replicate k (i : Int)).map (.int .i64)))) (fun _ v13 _ => K - (intOf v13).toNat)
        case atStart => exact ⟨0, Nat.zero_le _, rfl, hX, HO0⟩
        case round =>
          obtain ⟨k, hk, rfl, hX2, HO⟩ := hrel
          have hE3 := hE1.trans' hX2
          have hcs2 := (hE3.cell' hbs).trans hcs
          have hbs2 := Nat.lt_of_lt_of_le hbs hE3.size
          by_cases hlk : k < K
          case neg =>
            obtain rfl : k = K := by omega
            obtain ⟨a12, k12, e12⟩ := slice_form HO.out
            subst e12
            have HOn : Hid (wr.ownsRow w1.heap.size 3 1 (.slice a12 (Bi.length + k) k12) (bldL S (i + 1)).length ((bldL S (i + 1)).map (.int .i64))) := Lib.hid (by
              rw [Hnx.out, List.length_append, List.length_replicate]; exact HO.out)
            go_wp2_with fail
            go_roundw
            case rel => exact ⟨i + 1, by omega, by go_num, hX2, HOn⟩
            case measure => simp [intOf]; omega
          have Hrp : Hid ((Bi ++ List.replicate k (i : Int)) ++ [(i : Int)] = Bi ++ List.replicate (k + 1) (i : Int)) := Lib.hid (by rw [List.replicate_succ', List.append_assoc])
          go_wp2_with (at_builtin; refine wpList_push1 (x := (i : Int)) rfl (.tmp 36) (.tmp 38) 26 rfl Hi.out Try.underlying26 rfl rfl HO.out (by omega) hX2.size ?_; intro v4 w4 h4 hg4 hat4; have hX4 := ext_append hX2 HO.out (Nat.le_refl _) hg4; rw [Hrp.out] at h4; have HO4 := Lib.hid h4; clear h4 hg4 hat4)
          go_roundw
          case rel => exact ⟨k + 1, by omega, by go_num, hX4, HO4⟩
          case measure => simp [intOf]; omega
      obtain rfl : i = l.length := by omega
      obtain ⟨g, cap, rfl, hg1, hg2⟩ := ownsRow_form HO.out (by rw [Hbl.out]; omega)
      have HG0 : Hid (OwnG wr 3 w1.heap.size g (wd * ht) cap (bldL S l.length)) := Lib.hid (by have := HO.out; rw [Hbl.out] at this; exact this)
      rw [Hbl.out]
      have hc0 : 0 ≤ costO (dC l wd) (oF (bldL S l.length)) (wd * ht) := costO_nonneg (fun k hk => (dC_bd Hcell.out hk ((oF_lt Hsc.out.own (by rw [Hbl.out]; exact hk)).1)).1)
      have HF0 : Hid (costO (dC l wd) (oF (bldL S l.length)) (wd * ht) ≤ (((costO (dC l wd) (oF (bldL S l.length)) (wd * ht)).toNat : Nat) : Int)) := Lib.hid (by omega)
      clear HO hc0 Hbl Hbb hli
      generalize (costO (dC l wd) (oF (bldL S l.length)) (wd * ht)).toNat = F0 at *
      generalize bldL S l.length = O0 at *
      go_wp2_with fail
      go_loopg [43] F0 (fun F _ wr => ∃ O, Ext w1 wr ∧ Hid (OwnG wr 3 w1.heap.size g (wd * ht) cap O) ∧ Hid (ShCnt l wd ht S O) ∧ Hid (costO (dC l wd) (oF O) (wd * ht) ≤ (F : Int)))
      case atStart => exact ⟨O0, hX, HG0, Hsc, HF0⟩
      case round =>
        obtain ⟨O, hX2, HG, HSc, HF⟩ := hrel
        obtain ⟨F, rfl⟩ : ∃ F : Nat, F = gk := ⟨_, rfl⟩
        have hE3 := hE1.trans' hX2
        have Hcs := Lib.hid (costO_nonneg (d := dC l wd) (O := oF O) (m := wd * ht) (fun k hk => (dC_bd Hcell.out hk ((oF_lt HSc.out.own (by rw [HSc.out.len]; exact hk)).1)).1))
        go_wp2_with fail
        refine (f84_c a l.length c l wd ht w1.heap.size g (wd * ht) cap O wr (hl.ext hE3) rfl Hcell.out (Nat.le_refl _) HSc.out.own HG.out).mono ?_
        rintro e w4 ⟨bl, O2, rfl, hG2, hEx, hfa, htr⟩
        have hX4 := hEx w1 hX2 hg1
        have HG2 := Lib.hid hG2
        clear hG2 hEx
        cases bl with
        | true =>
          have hb := htr rfl
          have HS2 := Lib.hid (HSc.out.better hb)
          have HF2 : Hid (costO (dC l wd) (oF O2) (wd * ht) ≤ ((F - 1 : Nat) : Int) ∧ 1 ≤ F) := Lib.hid (by
            have h1 := hb.cost
            rw [HSc.out.len] at h1
            have h2 := HF.out
            have h3 := costO_nonneg (d := dC l wd) (O := oF O2) (m := wd * ht) (fun k hk => (dC_bd Hcell.out hk ((oF_lt HS2.out.own (by rw [HS2.out.len]; exact hk)).1)).1)
            omega)
          have hF1 := HF2.out.2
          clear hb hfa htr
          go_wp2_with fail
          go_roundg (F - 1)
          case measure => omega
          case rel => exact ⟨O2, hX4, HG2, HS2, Lib.hid HF2.out.1⟩
        | false =>
          obtain ⟨rfl, hft⟩ := hfa rfl
          have HSh := Lib.hid (HSc.out.share hft)
          have hE4 := hE1.trans' hX4
          have C75 := Lib.hid (f75_c a (some ⟨g, 0, none⟩) l.length c (wd * ht) cap l O2 wd w4 (hl.ext hE4) HG2.out.ints rfl HSh.out.len H0.out hw1 hw2 hpx (fun j hj => HSh.out.own j hj))
          have HV : Hid (∃ O', ShareOf l (wd : Int).toNat (ht : Int).toNat S O' ∧ costTo l wd O2 (wd * ht) = costTo l (wd : Int).toNat O' ((wd : Int).toNat * (ht : Int).toNat)) := Lib.hid (by
            rw [Int.toNat_natCast, Int.toNat_natCast]
            exact ⟨O2, HSh.out, rfl⟩)
          clear hft hfa htr
          generalize costTo l wd O2 (wd * ht) = cv at *
          go_wp2_with fail
          refine C75.out.mono ?_
          rintro e w5 ⟨rfl, hE5⟩
          go_wp2_with fail
          go_ret2
          exact HR.out cv w5 (hE4.trans' hE5) HV.out
  · have HR : Hid (∀ w', Ext w w' → RetLst l x y S w (.returned (.tuple #[.int .i64 0, .int .i64 1])) w') := Lib.hid (fun w' hE => ⟨0, by rw [he], ⟨fun _ => rfl, fun h => by rw [hok] at h; simp at h⟩, hE⟩)
    rw [he] at hc
    have Hc := Lib.hid hc
    clear hc he hok
    go_enter Try.func52, Try.ntmps52
    go_wp2_with fail
    refine Hc.out.mono ?_
    rintro e w1 ⟨rfl, hE1⟩
    clear Hc
    go_wp2_with fail
    go_ret2
    exact HR.out w1 hE1
end Go.Proofs.Ytodlbgncdggimaa
