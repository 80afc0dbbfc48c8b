/- Contract of the reference: Weights. -/
import Derived.Test.YtodlbgncdggimaaT32
import Derived.Test.YtodlbgncdggimaaT20
import Derived.Test.YtodlbgncdggimaaP6
namespace Go.Proofs.Ytodlbgncdggimaa
open Go.RowKit
attribute [local go_sem] GW.cell

/-- the weights as they lie after k rounds -/
def wLie (pl sh : List Int) (fr : Int) (k : Nat) : List Int := (List.range pl.length).map fun j => if j ≤ k then wAt pl sh fr j else 0
theorem wLie_length (pl sh : List Int) (fr : Int) (k : Nat) : (wLie pl sh fr k).length = pl.length := by simp [wLie]
theorem wLie_zero (pl sh : List Int) (fr : Int) : wLie pl sh fr 0 = List.replicate pl.length 0 := by
  apply List.ext_getElem (by simp [wLie])
  intro j h1 h2
  simp only [wLie, List.getElem_map, List.getElem_range, List.getElem_replicate]
  split
  · rename_i h; obtain rfl : j = 0 := by omega
    rfl
  · rfl
theorem wLie_at {pl sh : List Int} {fr : Int} {k : Nat} (hk : k < pl.length) : (wLie pl sh fr k)[k]? = some (wAt pl sh fr k) := by simp [wLie, hk]
theorem wLie_set {pl sh : List Int} {fr : Int} {k : Nat} (_hk : k + 1 < pl.length) : (wLie pl sh fr k).set (k + 1) (wAt pl sh fr (k + 1)) = wLie pl sh fr (k + 1) := by
  apply List.ext_getElem (by simp [wLie])
  intro j h1 h2
  rw [List.getElem_set]
  simp only [wLie, List.getElem_map, List.getElem_range]
  by_cases e : k + 1 = j
  · subst e; simp
  · rw [if_neg e]
    by_cases e2 : j ≤ k
    · rw [if_pos e2, if_pos (by omega)]
    · rw [if_neg e2, if_neg (by omega)]
theorem wLie_last {pl sh : List Int} {fr : Int} {k : Nat} (hk : pl.length ≤ k + 1) : wLie pl sh fr k = wts pl sh fr pl.length := by
  apply List.ext_getElem (by simp [wLie, wts])
  intro j h1 h2
  simp only [wLie, wts, List.getElem_map, List.getElem_range]
  simp [wLie] at h1
  rw [if_pos (by omega)]
theorem wLie_store {W : World} {B : Nat} {pl sh : List Int} {fr : Int} {k : Nat} (h : W.ownsRow B 3 1 (.slice (some ⟨B, 0, none⟩) pl.length pl.length) pl.length ((wLie pl sh fr k).map (.int .i64))) (hk : k + 1 < pl.length) :
    (W.setCell ⟨B, k + 1, none⟩ (.int .i64 (wAt pl sh fr (k + 1)))).ownsRow B 3 1 (.slice (some ⟨B, 0, none⟩) pl.length pl.length) pl.length ((wLie pl sh fr (k + 1)).map (.int .i64)) := by
  have hst := (h.stored (k + 1) (.int .i64 (wAt pl sh fr (k + 1)))).1
  rw [← List.map_set, wLie_set hk] at hst
  exact hst
theorem wLie_cell {W : World} {B : Nat} {pl sh : List Int} {fr : Int} {k : Nat} (h : W.ownsRow B 3 1 (.slice (some ⟨B, 0, none⟩) pl.length pl.length) pl.length ((wLie pl sh fr k).map (.int .i64))) (hk : k < pl.length) :
    W.cell? ⟨B, k, none⟩ = some (.int .i64 (wAt pl sh fr k)) := by
  refine (h.cellAt k (by omega)).trans ?_
  rw [List.getElem?_map, wLie_at hk]
  rfl
theorem wLie_next {W : World} {B : Nat} {pl sh : List Int} {fr : Int} {k : Nat} (h : W.ownsRow B 3 1 (.slice (some ⟨B, 0, none⟩) pl.length pl.length) pl.length ((wLie pl sh fr k).map (.int .i64))) (hk : k + 1 < pl.length) :
    W.cell? ⟨B, k + 1, none⟩ = some (.int .i64 0) := by
  refine (h.cellAt (k + 1) (by omega)).trans ?_
  rw [List.getElem?_map]
  have e : (wLie pl sh fr k)[k + 1]? = some 0 := by
    simp only [wLie, List.getElem?_map, List.getElem?_range hk, Option.map_some, Option.some_inj]
    rw [if_neg (by omega)]
  rw [e]; rfl
theorem own_lt {W : World} {B n : Nat} {xs : List Value} (h : W.ownsRow B 3 1 (.slice (some ⟨B, 0, none⟩) n n) n xs) : B < W.heap.size := by
  rcases h.2 with ⟨h1, _⟩ | ⟨g, cap, cur, h1, hb, hg, _⟩
  · cases h1
  · injection h1 with h1 _ _
    simp only [Option.some.injEq, Addr.mk.injEq, and_true] at h1
    subst h1
    exact (Array.getElem?_eq_some_iff.1 hg).1
theorem tAt_bd {sh : List Int} {fr : Int} (hfr : -30 ≤ fr ∧ fr ≤ 30) : ∀ k, k ≤ sh.length → (∀ j, j < k → 1 ≤ sh[j]?.getD 0 ∧ sh[j]?.getD 0 ≤ 60) → -30 ≤ tAt sh fr k ∧ tAt sh fr k ≤ 30 + 60 * k
  | 0, _, _ => by rw [tAt_zero]; omega
  | k + 1, hk, h => by
    have h1 := tAt_bd hfr k (by omega) (fun j hj => h j (by omega))
    have h2 := h k (by omega)
    rw [List.getElem?_eq_getElem (by omega), Option.getD_some] at h2
    rw [tAt_succ sh fr (by omega)]; omega
theorem tAt_mono {sh : List Int} {fr : Int} {n : Nat} (hn : n ≤ sh.length) (h : ∀ j, j < n → 1 ≤ sh[j]?.getD 0 ∧ sh[j]?.getD 0 ≤ 60) : ∀ d k, k + d = n → tAt sh fr k ≤ tAt sh fr n
  | 0, k, e => by rw [show k = n by omega]; exact Int.le_refl _
  | d + 1, k, e => by
    have h1 := tAt_mono (fr := fr) hn h d (k + 1) (by omega)
    have h2 := h k (by omega)
    rw [List.getElem?_eq_getElem (by omega), Option.getD_some] at h2
    rw [tAt_succ sh fr (by omega)] at h1; omega
theorem sq360 {x : Int} (h : -60 ≤ x ∧ x ≤ 360) : 0 ≤ x * x ∧ x * x ≤ 129600 := by
  have := sq_le x 360 (by omega) (by omega); omega
theorem wAt_bd {pl sh : List Int} {fr : Int} (hl : okLine pl = true) (hlen : sh.length = pl.length) (hfr : -30 ≤ fr ∧ fr ≤ 30) : ∀ k, k < pl.length → (∀ j, j < k → 1 ≤ sh[j]?.getD 0 ∧ sh[j]?.getD 0 ≤ 60) → -129600 * k ≤ wAt pl sh fr k ∧ wAt pl sh fr k ≤ 129600 * k
  | 0, _, _ => by simp [wAt]
  | k + 1, hk, h => by
    have h1 := wAt_bd hl hlen hfr k (by omega) (fun j hj => h j (by omega))
    have h2 := tAt_bd hfr (k + 1) (by omega) h
    have h3 := line_in hl (show k < pl.length by omega)
    have h4 := line_in hl hk
    have hl5 := (okLine_spec hl).1
    have s1 := sq360 (x := tAt sh fr (k + 1) - pl[k + 1]?.getD 0) (by omega)
    have s2 := sq360 (x := tAt sh fr (k + 1) - pl[k]?.getD 0) (by omega)
    rw [wAt]; omega

set_option maxRecDepth 20000 in
set_option maxHeartbeats 8000000 in
theorem f47_c (a b : Option Addr) (n m c d : Nat) (pl sh : List Int) (fr : Int) (w : World) (hp : Ints w a pl) (hs : Ints w b sh) (hn : pl.length = n) (hm : sh.length = m) (hlen : n ≤ 140737488355328) (hlen2 : m ≤ 140737488355328) :
    Calls Try.prog 47 #[.slice a n c, .slice b m d, .int .i64 fr] w (RetInts (weightsL pl sh fr) (errOf (okW pl sh fr)) w) := by
  subst hn hm
  obtain ⟨i0, hi0⟩ := info_parts info3
  have Hi := Lib.hid hi0
  clear hi0
  have hc := f44_c a pl.length c pl w hp rfl hlen
  rcases errOf_cases2 (okLine pl) with ⟨hok, he⟩ | ⟨hok, he⟩
  · rw [he] at hc
    have Hc := Lib.hid hc
    by_cases hq : sh.length = pl.length
    · have hne : ((sh.length : Int) != (pl.length : Int)) = false := by simp [hq]
      cases hfr : withinB fr (-30) 30 with
      | true =>
        have hfb := withinB_iff.1 hfr
        have hl5 := (okLine_spec hok).1
        have Hok := Lib.hid hok
        have Hq := Lib.hid hq
        have Hfr := Lib.hid hfr
        have hs5 : sh.length ≤ 5 := by omega
        clear hc hok he hq hfr
        go_enter Try.func47, Try.ntmps47
        go_wp2_with fail
        refine Hc.out.mono ?_
        rintro e w1 ⟨rfl, hE1⟩
        clear Hc
        go_wp2_with fail
        refine (f60_c _ _ _ _).mono ?_
        rintro e w1' ⟨rfl, rfl⟩
        rw [Hfr.out]
        have hsz1 := hE1.size
        go_wp2_with (at_make; refine wpList_make_full _ rfl (.tmp 29) (.tmp 29) 26 rfl w1.heap.size 3 i0 (.int .i64 0) 1 Try.underlying26 Hi.out.1 Hi.out.2.1 Hi.out.2.2.1 .i64 .i64 pl.length pl.length pl.length rfl rfl rfl rfl (by rw [Hi.out.2.2.2]; omega) (by unfold maxLen; omega) (Nat.le_refl _) ?_; intro w2 hrow hgrow; have hE2 := hE1.grown hgrow hsz1 (by simp); rw [show (Value.int IntKind.i64 0).cells = #[.int .i64 0] from rfl, made_one] at hrow; have Hrow := Lib.hid hrow; clear hrow hgrow)
        go_loopw [9, 11] (fun v i wr => ∃ k : Nat, k ≤ sh.length ∧ i = .int .i64 k ∧ v = .int .i64 (tAt sh fr k) ∧ Ext w wr ∧ Hid (∀ j, j < k → withinB (sh[j]?.getD 0) 1 60 = true) ∧ Hid (wr.ownsRow w1.heap.size 3 1 (.slice (some ⟨w1.heap.size, 0, none⟩) pl.length pl.length) pl.length ((wLie pl sh fr k).map (.int .i64)))) (fun _ i _ => sh.length - (intOf i).toNat)
        case atStart => exact ⟨0, by omega, rfl, by rw [tAt_zero], hE2, fun j hj => by omega, by rw [wLie_zero, List.map_replicate]; exact Hrow⟩
        case round =>
          clear Hrow
          obtain ⟨k, hk, rfl, rfl, hE, H, HR⟩ := hrel
          have hsh : ∀ j, j < k → 1 ≤ sh[j]?.getD 0 ∧ sh[j]?.getD 0 ≤ 60 := fun j hj => withinB_iff.1 (H.out j hj)
          have htb := tAt_bd hfb k hk hsh
          by_cases hlt : k < sh.length
          · have hkp : k < pl.length := by rw [← Hq.out]; exact hlt
            obtain ⟨b2, o2, rfl, hb2, hc2⟩ := hs.ext hE k hlt
            cases hi : withinB (sh[k]?.getD 0) 1 60 with
            | true =>
              have hsb := withinB_iff.1 hi
              have hsh2 : ∀ j, j < k + 1 → 1 ≤ sh[j]?.getD 0 ∧ sh[j]?.getD 0 ≤ 60 := fun j hj => by
                by_cases e : j = k
                · subst e; exact hsb
                · exact hsh j (by omega)
              have htb2 := tAt_bd hfb (k + 1) (by omega) hsh2
              have hts := tAt_succ sh fr hlt
              rw [List.getElem?_eq_getElem hlt, Option.getD_some] at hc2 hi hsb
              have H2 : Hid (∀ j, j < k + 1 → withinB (sh[j]?.getD 0) 1 60 = true) := Lib.hid (fun j hj => by
                by_cases e : j = k
                · subst e; rw [List.getElem?_eq_getElem hlt, Option.getD_some]; exact hi
                · exact H.out j (by omega))
              have Hi2 := Lib.hid hi
              by_cases hkn : k + 1 < pl.length
              · have hw1 := wAt_bd Hok.out Hq.out hfb k hkp hsh
                have hw2 := wAt_bd Hok.out Hq.out hfb (k + 1) hkn hsh2
                have hwe : wAt pl sh fr (k + 1) = wAt pl sh fr k + (tAt sh fr (k + 1) - pl[k + 1]?.getD 0) * (tAt sh fr (k + 1) - pl[k + 1]?.getD 0) - (tAt sh fr (k + 1) - pl[k]?.getD 0) * (tAt sh fr (k + 1) - pl[k]?.getD 0) := rfl
                have hl1 := line_in Hok.out hkp
                have hl2 := line_in Hok.out hkn
                have s1 := sq360 (x := tAt sh fr (k + 1) - pl[k + 1]?.getD 0) (by omega)
                have s2 := sq360 (x := tAt sh fr (k + 1) - pl[k]?.getD 0) (by omega)
                obtain ⟨b3, o3, rfl, hb3, hc3⟩ := hp.ext hE k hkp
                obtain ⟨b4, o4, he4, hb4, hc4⟩ := hp.ext hE (k + 1) hkn
                simp only [Option.some.injEq, Addr.mk.injEq] at he4
                obtain ⟨rfl, rfl, -⟩ := he4
                have hcw := wLie_cell HR.out hkp
                have hlb := own_lt HR.out
                rw [hts] at hwe s1 s2 htb2
                have Hwe := Lib.hid hwe
                have Hts := Lib.hid hts
                rw [hwe] at hw2
                generalize wAt pl sh fr k = wk at *
                generalize pl[k + 1]?.getD 0 = q at *
                generalize pl[k]?.getD 0 = p at *
                have hkk : (k : Int) + 1 < (pl.length : Int) := by omega
                have hfn := fun i => HR.out.frozenAt i
                have hcn := wLie_next HR.out hkn
                generalize tAt sh fr k = t at *
                clear hwe hts hi hsh hsh2
                go_wp2_with fail
                refine (f60_c _ _ _ _).mono ?_
                rintro e w3 ⟨rfl, rfl⟩
                rw [Hi2.out]
                go_wp2_with fail
                refine wp_region_ext_tail 38 (by kernel_rfl) (by kernel_rfl) ?_
                simp only [List.take_succ_cons, List.take_zero, List.drop_succ_cons, List.drop_zero]
                repeat (go_big_quiet_step (fail))
                refine wpQuiet_nil ?_
                intro w4 hE4
                have HR4 := Lib.hid (row_ext HR.out hE4)
                have hfn := fun i => HR4.out.frozenAt i
                have hcn := wLie_next HR4.out hkn
                clear hcw hc2 hc3 hc4 hlb
                go_wp2_with fail
                go_roundw
                case rel => exact ⟨k + 1, by omega, by go_num, by rw [Hts.out], (hE.trans' hE4).setCell (show w.heap.size ≤ w1.heap.size by omega) _, H2, by rw [← Hwe.out]; exact Lib.hid (wLie_store HR4.out hkn)⟩
                case measure => simp [intOf]; omega
              · have Hts := Lib.hid hts
                have hkk : ¬ ((k : Int) + 1 < (pl.length : Int)) := by omega
                have HR2 : Hid (wr.ownsRow w1.heap.size 3 1 (.slice (some ⟨w1.heap.size, 0, none⟩) pl.length pl.length) pl.length ((wLie pl sh fr (k + 1)).map (.int .i64))) := (by rw [wLie_last (by omega), ← wLie_last (k := k) (by omega)]; exact HR)
                rw [hts] at htb2
                generalize tAt sh fr k = t at *
                clear hts hi hsh hsh2
                go_wp2_with fail
                refine (f60_c _ _ _ _).mono ?_
                rintro e w3 ⟨rfl, rfl⟩
                rw [Hi2.out]
                go_wp2_with fail
                go_roundw
                case rel => exact ⟨k + 1, by omega, by go_num, by rw [Hts.out], hE, H2, HR2⟩
                case measure => simp [intOf]; omega
            | false =>
              have hno := okW_no_share (pl := pl) (fr := fr) hlt (by unfold okShare; rw [hi]; rfl)
              have Hno := Lib.hid hno
              rw [List.getElem?_eq_getElem hlt, Option.getD_some] at hc2 hi
              have Hi2 := Lib.hid hi
              clear hno hi
              go_wp2_with fail
              refine (f60_c _ _ _ _).mono ?_
              rintro e w3 ⟨rfl, rfl⟩
              rw [Hi2.out]
              go_wp2_with fail
              go_ret2
              exact retErr Hno.out hE
          · obtain rfl : k = sh.length := by omega
            by_cases h30 : 30 < tAt sh fr sh.length
            · have d30 : decide (30 < tAt sh fr sh.length) = true := by simpa using h30
              have hno : okW pl sh fr = false := okW_no_share (k := sh.length - 1) (by have := Hq.out; omega) (by
                unfold okShare
                have hq := Hq.out
                rw [show sh.length - 1 + 1 = sh.length by omega]
                have : decide (tAt sh fr sh.length ≤ 30) = false := by simp; omega
                rw [this, Bool.and_false])
              have Hno := Lib.hid hno
              clear hno h30
              go_wp2_with fail
              go_ret2
              exact retErr Hno.out hE
            · have d30 : decide (30 < tAt sh fr sh.length) = false := by simpa using h30
              have hyes : okW pl sh fr = true := okW_yes Hok.out Hq.out Hfr.out (fun j hj => by
                have h1 := tAt_mono (fr := fr) (Nat.le_refl _) hsh (sh.length - (j + 1)) (j + 1) (by omega)
                unfold okShare
                rw [H.out j hj, Bool.true_and]
                simp; omega)
              have hwl : weightsL pl sh fr = wLie pl sh fr sh.length := by
                unfold weightsL
                rw [if_pos hyes, wLie_last (by have := Hq.out; omega)]
              have Hyes := Lib.hid hyes
              have Hwl := Lib.hid hwl
              clear hyes hwl h30
              obtain ⟨ad, cp, hv, hI⟩ := ints_of_row HR.out
              have Hv := Lib.hid hv
              have HI := Lib.hid hI
              clear hv hI
              go_wp2_with fail
              go_ret2
              rw [Hwl.out, show errOf (okW pl sh fr) = 0 by rw [Hyes.out]; rfl]
              exact ⟨ad, cp, by rw [← Hv.out]; rfl, HI.out, hE⟩
      | false =>
        have hno := okW_no (pl := pl) (sh := sh) (fr := fr) (by rw [hfr]; simp)
        have Hfr := Lib.hid hfr
        have Hno := Lib.hid hno
        clear hc hok he hq hfr hno
        go_enter Try.func47, Try.ntmps47
        go_wp2_with fail
        refine Hc.out.mono ?_
        rintro e w1 ⟨rfl, hE1⟩
        clear Hc
        go_wp2_with fail
        refine (f60_c _ _ _ _).mono ?_
        rintro e w1' ⟨rfl, rfl⟩
        rw [Hfr.out]
        go_wp2_with fail
        go_ret2
        exact retErr Hno.out hE1
    · have hne : ((sh.length : Int) != (pl.length : Int)) = true := by simp; omega
      have hno := okW_no (pl := pl) (sh := sh) (fr := fr) (fun h => hq h.2.1)
      have Hno := Lib.hid hno
      clear hc hok he hq hno
      go_enter Try.func47, Try.ntmps47
      go_wp2_with fail
      refine Hc.out.mono ?_
      rintro e w1 ⟨rfl, hE1⟩
      clear Hc
      go_wp2_with fail
      go_ret2
      exact retErr Hno.out hE1
  · rw [he] at hc
    have Hc := Lib.hid hc
    have hno := okW_no (pl := pl) (sh := sh) (fr := fr) (fun h => by rw [hok] at h; cases h.1)
    have Hno := Lib.hid hno
    clear hc hok he hno
    go_enter Try.func47, Try.ntmps47
    go_wp2_with fail
    refine Hc.out.mono ?_
    rintro e w1 ⟨rfl, hE1⟩
    clear Hc
    go_wp2_with fail
    go_ret2
    exact retErr Hno.out hE1
end Go.Proofs.Ytodlbgncdggimaa
