/- The weights for lengths: the stretches have these lengths. -/
import Derived.Test.YtodlbgncdggimaaP8
import Derived.Test.YtodlbgncdggimaaT41
namespace Go.Proofs.Ytodlbgncdggimaa

structure WOK (pl sh : List Int) (fr : Int) : Prop where
  line : okLine pl = true
  len : sh.length = pl.length
  frb : -30 ≤ fr ∧ fr ≤ 30
  share : ∀ k, k < sh.length → 1 ≤ sh[k]?.getD 0 ∧ sh[k]?.getD 0 ≤ 60
  tb : ∀ k, k ≤ sh.length → -30 ≤ tAt sh fr k ∧ tAt sh fr k ≤ 30
theorem okW_spec {pl sh : List Int} {fr : Int} (h : okW pl sh fr = true) : WOK pl sh fr := by
  simp only [okW, Bool.and_eq_true, decide_eq_true_eq, List.all_eq_true, List.mem_range, okShare] at h
  obtain ⟨⟨h1, h2, h3⟩, h4⟩ := h
  have hf := withinB_iff.1 h3
  have hs : ∀ k, k < sh.length → 1 ≤ sh[k]?.getD 0 ∧ sh[k]?.getD 0 ≤ 60 := fun k hk => withinB_iff.1 (h4 k hk).1
  refine ⟨h1, h2, hf, hs, fun k hk => ?_⟩
  have hb := tAt_bd hf k hk (fun j hj => hs j (by omega))
  refine ⟨hb.1, ?_⟩
  match k, hk with
  | 0, _ => rw [tAt_zero]; exact hf.2
  | k + 1, hk => exact (h4 k (by omega)).2
theorem tAt_lt {pl sh : List Int} {fr : Int} (h : WOK pl sh fr) {k : Nat} (hk : k < sh.length) : tAt sh fr k < tAt sh fr (k + 1) := by
  have := h.share k hk
  rw [List.getElem?_eq_getElem hk, Option.getD_some] at this
  rw [tAt_succ sh fr hk]; omega
theorem tAt_le {pl sh : List Int} {fr : Int} (h : WOK pl sh fr) {k : Nat} : ∀ d, k + d ≤ sh.length → tAt sh fr k ≤ tAt sh fr (k + d)
  | 0, _ => Int.le_refl _
  | d + 1, hd => by
    have h1 := tAt_le h (k := k) d (by omega)
    have h2 := tAt_lt h (k := k + d) (by omega)
    rw [show k + (d + 1) = k + d + 1 by omega]; omega
theorem wts_at {pl sh : List Int} {fr : Int} {m k : Nat} (hk : k < m) : (wts pl sh fr m)[k]?.getD 0 = wAt pl sh fr k := by simp [wts, hk]
theorem sq60 {x : Int} (h : -60 ≤ x ∧ x ≤ 60) : 0 ≤ x * x ∧ x * x ≤ 3600 := by
  have := sq_le x 60 (by omega) (by omega); omega
theorem wAt_small {pl sh : List Int} {fr : Int} (h : WOK pl sh fr) : ∀ k, k < pl.length → -3600 * k ≤ wAt pl sh fr k ∧ wAt pl sh fr k ≤ 3600 * k
  | 0, _ => by simp [wAt]
  | k + 1, hk => by
    have h1 := wAt_small h k (by omega)
    have h2 := h.tb (k + 1) (by have := h.len; omega)
    have h3 := line_in h.line (show k < pl.length by omega)
    have h4 := line_in h.line hk
    have s1 := sq60 (x := tAt sh fr (k + 1) - pl[k + 1]?.getD 0) (by omega)
    have s2 := sq60 (x := tAt sh fr (k + 1) - pl[k]?.getD 0) (by omega)
    rw [wAt]; omega
theorem wts_in {pl sh : List Int} {fr : Int} (h : WOK pl sh fr) : allIn 20000 (wts pl sh fr pl.length) = true := by
  unfold allIn
  refine List.all_eq_true.2 fun z hz => ?_
  simp only [wts, List.mem_map, List.mem_range] at hz
  obtain ⟨k, hk, rfl⟩ := hz
  have := wAt_small h k hk
  have hl := (okLine_spec h.line).1
  rw [withinB_iff]; omega
theorem meet_next {pl sh : List Int} {fr : Int} (h : WOK pl sh fr) {k : Nat} (hk : k + 1 < pl.length) : meet pl (wts pl sh fr pl.length) k (k + 1) = tAt sh fr (k + 1) * MM := by
  have h1 := meet_eq (wts pl sh fr pl.length) h.line (show k < k + 1 by omega) hk
  have hd := cutD_up h.line (show k < k + 1 by omega) hk
  have hn : cutN pl (wts pl sh fr pl.length) k (k + 1) = cutD pl k (k + 1) * tAt sh fr (k + 1) := by
    unfold cutN cutD
    rw [wts_at (by omega), wts_at hk, wAt]
    generalize pl[k + 1]?.getD 0 = q
    generalize pl[k]?.getD 0 = p
    generalize tAt sh fr (k + 1) = t
    generalize wAt pl sh fr k = u
    grind
  rw [hn, Int.mul_assoc] at h1
  exact Int.eq_of_mul_eq_mul_left (by omega) h1
theorem meet_up {pl sh : List Int} {fr : Int} (h : WOK pl sh fr) : ∀ d k, k + 1 + d < pl.length → tAt sh fr (k + 1) * MM ≤ meet pl (wts pl sh fr pl.length) k (k + 1 + d)
  | 0, k, hk => by rw [Nat.add_zero, meet_next h hk]; exact Int.le_refl _
  | d + 1, k, hk => by
    have h1 := meet_up h d (k + 1) (by omega)
    have hp := MM_pos
    have h2 := Int.mul_le_mul_of_nonneg_right (Int.le_of_lt (tAt_lt h (k := k + 1) (by have := h.len; omega))) (show 0 ≤ MM by omega)
    refine meet_ge _ h.line (m := k + 1) (by omega) (by omega) hk ?_ ?_
    · rw [meet_next h (by omega)]; exact Int.le_refl _
    · rw [show k + 1 + (d + 1) = k + 1 + 1 + d by omega]; exact Int.le_trans h2 h1
theorem meet_down {pl sh : List Int} {fr : Int} (h : WOK pl sh fr) : ∀ d i, i + 1 + d < pl.length → meet pl (wts pl sh fr pl.length) i (i + 1 + d) ≤ tAt sh fr (i + 1 + d) * MM
  | 0, i, hi => by rw [Nat.add_zero, meet_next h hi]; exact Int.le_refl _
  | d + 1, i, hi => by
    have h1 := meet_down h d (i + 1) (by omega)
    have hp := MM_pos
    have h2 := Int.mul_le_mul_of_nonneg_right (tAt_le h (k := i + 1) (d + 1) (by have := h.len; omega)) (show 0 ≤ MM by omega)
    rw [show i + 1 + 1 + d = i + 1 + (d + 1) by omega] at h1
    refine meet_le _ h.line (m := i + 1) (by omega) (by omega) hi ?_ h1
    rw [meet_next h (by omega)]; exact h2
theorem weights_str {pl sh : List Int} {fr : Int} (h : WOK pl sh fr) {k : Nat} (hk : k < pl.length) :
    strAt pl (wts pl sh fr pl.length) fr (tAt sh fr sh.length) k = ⟨tAt sh fr k, 1, tAt sh fr (k + 1), 1⟩ := by
  have hs := cutTo_ok (ws := wts pl sh fr pl.length) (fr := fr) (to := tAt sh fr sh.length) h.line hk pl.length (Nat.le_refl _)
  have hp := MM_pos
  have hlen := h.len
  have hmono : ∀ i j, i ≤ j → j ≤ sh.length → tAt sh fr i * MM ≤ tAt sh fr j * MM := fun i j hij hj => by
    have := tAt_le h (k := i) (j - i) (by omega)
    rw [show i + (j - i) = j by omega] at this
    exact Int.mul_le_mul_of_nonneg_right this (by omega)
  have hvf : vf (strRaw pl (wts pl sh fr pl.length) fr (tAt sh fr sh.length) k) = valQ (tAt sh fr k) 1 := by
    rw [valQ_one]
    have hlo := hs.lo
    rw [valQ_one] at hlo
    have h0 : tAt sh fr 0 = fr := tAt_zero sh fr
    have hlov := hs.lov
    rw [valQ_one] at hlov
    refine Int.le_antisymm ?_ ?_
    · rcases hlov with e | ⟨i, hi, e⟩
      · have := hmono 0 k (by omega) (by omega)
        rw [h0] at this
        exact Int.le_trans (Int.le_of_eq e) this
      · have := meet_down h (k - (i + 1)) i (by omega)
        rw [show i + 1 + (k - (i + 1)) = k by omega] at this
        exact Int.le_trans (Int.le_of_eq e) this
    · match k, hk, hs, hlo with
      | 0, _, _, hlo => rw [h0]; exact hlo
      | k + 1, hk, hs, _ =>
        have := hs.los k (by omega) (by omega)
        rw [meet_next h hk] at this
        exact this
  have hvt : vt (strRaw pl (wts pl sh fr pl.length) fr (tAt sh fr sh.length) k) = valQ (tAt sh fr (k + 1)) 1 := by
    rw [valQ_one]
    have hhi := hs.hi
    rw [valQ_one] at hhi
    have hhiv := hs.hiv
    rw [valQ_one] at hhiv
    refine Int.le_antisymm ?_ ?_
    · by_cases e : k + 1 < pl.length
      · have := hs.his (k + 1) (by omega) e
        rw [meet_next h e] at this
        exact this
      · rw [show k + 1 = sh.length by omega]; exact hhi
    · rcases hhiv with e | ⟨j, hj, hj2, e⟩
      · have := hmono (k + 1) sh.length (by omega) (Nat.le_refl _)
        exact Int.le_trans this (Int.le_of_eq e.symm)
      · have := meet_up h (j - (k + 1)) k (by omega)
        rw [show k + 1 + (j - (k + 1)) = j by omega] at this
        exact Int.le_trans this (Int.le_of_eq e.symm)
  obtain ⟨a1, a2⟩ := Rd.eq hs.rf (Rd.one _) hvf
  obtain ⟨a3, a4⟩ := Rd.eq hs.rt (Rd.one _) hvt
  have hlt := tAt_lt h (k := k) (by omega)
  have hraw : strRaw pl (wts pl sh fr pl.length) fr (tAt sh fr sh.length) k = ⟨tAt sh fr k, 1, tAt sh fr (k + 1), 1⟩ := by
    have e : ∀ s : Str, s.fn = tAt sh fr k → s.fd = 1 → s.tn = tAt sh fr (k + 1) → s.td = 1 → s = ⟨tAt sh fr k, 1, tAt sh fr (k + 1), 1⟩ := by
      rintro ⟨x1, x2, x3, x4⟩ h1 h2 h3 h4
      simp only at h1 h2 h3 h4
      subst h1 h2 h3 h4; rfl
    exact e _ a1 a2 a3 a4
  unfold strAt
  rw [hraw, if_pos (by show tAt sh fr k * 1 < tAt sh fr (k + 1) * 1; omega)]
theorem weights_ok {pl sh : List Int} {fr : Int} (h : WOK pl sh fr) : okStr pl (wts pl sh fr pl.length) fr (tAt sh fr sh.length) = true := by
  have hl := (okLine_spec h.line).1
  have h1 := h.tb sh.length (Nat.le_refl _)
  have h2 := tAt_le h (k := 1) (sh.length - 1) (by have := h.len; omega)
  rw [show 1 + (sh.length - 1) = sh.length by have := h.len; omega] at h2
  have h3 := tAt_lt h (k := 0) (by have := h.len; omega)
  rw [tAt_zero] at h3
  have hf := h.frb
  simp only [okStr, Bool.and_eq_true, decide_eq_true_eq, withinB_iff]
  exact ⟨h.line, ⟨wts_length _ _ _ _, wts_in h⟩, ⟨hf, h1⟩, by simp only [Nat.zero_add] at h3; omega⟩
end Go.Proofs.Ytodlbgncdggimaa
