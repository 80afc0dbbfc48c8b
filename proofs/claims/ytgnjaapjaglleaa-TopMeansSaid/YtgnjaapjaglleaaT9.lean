/- Contracts of layer 7: sums, fractions, LeastSum. -/
import Derived.Test.YtgnjaapjaglleaaT8
namespace Go.Proofs.Ytgnjaapjaglleaa
open Go.RowKit
attribute [local go_sem] GW.cell

set_option maxHeartbeats 1000000 in
theorem f26_c (a : Option Addr) (n c : Nat) (l : List Int) (w : World) (hl : Ints w a l) (hn : l.length = n) (hlen : n ≤ 1000000) (hb : ∀ j, j < l.length → 0 ≤ gi l j ∧ gi l j ≤ 1000000) :
    Calls Try.prog 26 #[.slice a n c] w fun e w' => e = .returned (.int .i64 (sumTo l l.length)) ∧ Ext w w' := by
  subst hn
  have Hbd := Lib.hid (fun k (hk : k ≤ l.length) => sumR_bd (A := 0) (B := 1000000) hb k hk)
  have Hb := Lib.hid hb
  clear hb
  go_enter Try.func26, Try.ntmps26
  go_wp2_with fail
  go_loopw [3, 4] (fun v i wr => ∃ k : Nat, k ≤ l.length ∧ i = .int .i64 k ∧ v = .int .i64 (sumTo l k) ∧ Ext w wr) (fun _ i _ => l.length - (intOf i).toNat)
  case atStart => exact ⟨0, by omega, rfl, rfl, Below.refl _ _⟩
  case round =>
    obtain ⟨k, hk, rfl, rfl, hE⟩ := hrel
    have h1 := Hbd.out k hk
    rw [show sumR (gi l) k = sumTo l k from rfl] at h1
    by_cases hlt : k < l.length
    · have h2 := Hb.out k hlt
      have Hs : Hid (sumTo l (k + 1) = sumTo l k + gi l k) := Lib.hid rfl
      obtain ⟨b1, o1, rfl, hb1, hc1⟩ := hl.ext hE k hlt
      rw [← gi_at] at hc1
      generalize gi l k = x at *
      go_wp2_with fail
      go_roundw
      case rel => exact ⟨k + 1, by omega, by go_num, by rw [Hs.out], hE⟩
      case measure => simp [intOf]; omega
    · obtain rfl : k = l.length := by omega
      go_wp2_with fail
      go_ret
      exact ⟨rfl, hE⟩

set_option maxHeartbeats 1000000 in
theorem f103_c (n d : Int) (w : World) (hn : 0 ≤ n) (hd : 0 ≤ d) (hn1 : n ≤ 1000000000000000) (hd1 : d ≤ 1000000000000000) :
    Calls Try.prog 103 #[.int .i64 n, .int .i64 d] w fun e w' => e = .returned (.int .i64 (Int.gcd n d)) ∧ w = w' := by
  go_enter Try.func103, Try.ntmps103
  go_wp2_with fail
  go_loopw [0, 1, 5] (fun a b _ wr => ∃ x y : Int, a = .int .i64 x ∧ b = .int .i64 y ∧ 0 ≤ x ∧ x ≤ 1000000000000000 ∧ 0 ≤ y ∧ y ≤ 1000000000000000 ∧ w = wr ∧ Hid (Int.gcd x y = Int.gcd n d)) (fun _ b _ _ => (intOf b).natAbs)
  case atStart => exact ⟨n, d, rfl, rfl, hn, hn1, hd, hd1, rfl, rfl⟩
  case round =>
    obtain ⟨x, y, rfl, rfl, hx, hx1, hy, hy1, rfl, H⟩ := hrel
    by_cases h0 : y = 0
    · have hb : (y != 0) = false := by simp [h0]
      have H0 := Lib.hid h0
      clear h0
      go_wp2_with fail
      go_ret
      refine ⟨ret_int ?_, rfl⟩
      rw [← H.out, H0.out, Int.gcd_zero_right]
      omega
    · have hb : (y != 0) = true := by simp [h0]
      obtain ⟨hm1, hm2, hm3⟩ := tmod_bd (a := x) (b := y) (M := 1000000000000000) (by omega) (by omega) h0
      have hm4 : 0 ≤ x.tmod y := Int.tmod_nonneg _ hx
      have hm : x.tmod y = x % y := Int.tmod_eq_emod_of_nonneg hx
      have hg := gcd_step x y
      rw [hm] at hm1 hm2 hm3 hm4 hg
      have Hg := Lib.hid hg
      clear hg hm
      go_wp2_with fail
      go_roundw
      case rel => exact ⟨y, x % y, rfl, rfl, hy, hy1, hm4, hm2, by first | trivial | rfl, Lib.hid (Hg.out.trans H.out)⟩
      case measure => simp [intOf]; omega

def fracV (n d : Int) : Value := .agg #[.int .i64 (ratN n d), .int .i64 (ratD n d)]
set_option maxHeartbeats 1000000 in
theorem f79_c (n d : Int) (w : World) (hd : 0 < d) (hn1 : -1000000000000000 ≤ n) (hn2 : n ≤ 1000000000000000) (hd1 : d ≤ 1000000000000000) :
    Calls Try.prog 79 #[.int .i64 n, .int .i64 d] w fun e w' => e = .returned (fracV n d) ∧ Ext w w' := by
  have hc : ∀ W v, v = n ∨ v = -n → 0 ≤ v → Calls Try.prog 103 #[.int .i64 v, .int .i64 d] W fun e w' => e = .returned (.int .i64 (Int.gcd n d)) ∧ W = w' := fun W v hv h0 => by
    have hg : Int.gcd v d = Int.gcd n d := by
      rw [Int.gcd, Int.gcd]; congr 1; omega
    have := f103_c v d W h0 (by omega) (by omega) hd1
    rw [hg] at this
    exact this
  have hp := gcd_pos (n := n) (d := d) (by omega)
  have Hc := Lib.hid hc
  unfold fracV ratN ratD
  clear hc
  generalize (Int.gcd n d : Int) = g at *
  have h0 : g ≠ 0 := by omega
  have b1 := tdiv_bd (a := n) (b := g) (M := 1000000000000000) (by omega)
  have b2 := tdiv_bd (a := d) (b := g) (M := 1000000000000000) (by omega)
  have w1 : IntKind.i64.wrap (n.tdiv g) = n.tdiv g := IntWalk.i64_in _ (by omega)
  have w2 : IntKind.i64.wrap (d.tdiv g) = d.tdiv g := IntWalk.i64_in _ (by omega)
  by_cases hneg : n < 0
  · go_enter Try.func79, Try.ntmps79
    go_wp2_with fail
    refine (Hc.out _ (-n) (by omega) (by omega)).mono ?_
    rintro e w' ⟨rfl, rfl⟩
    go_wp2_with fail
    refine wp_region_ext_tail 7 (by kernel_rfl) (by kernel_rfl) ?_
    simp only [List.take_succ_cons, List.take_zero, List.drop_succ_cons, List.drop_zero]
    repeat (go_big_quiet_step (fail))
    refine wpQuiet_nil ?_
    intro w1 hE1
    have g0 : w1.cell? ⟨w.heap.size, 0, none⟩ = some (.int .i64 0) := (hE1.cell' (by simp)).trans (by simp)
    have g1 : w1.cell? ⟨w.heap.size, 1, none⟩ = some (.int .i64 0) := (hE1.cell' (by simp)).trans (by simp)
    have gf : ∀ i, w1.frozen? ⟨w.heap.size, i, none⟩ = false := fun i => (hE1.frozen (p := ⟨w.heap.size, i, none⟩) (by simp)).trans (by simp)
    go_wp2_with fail
    refine bodyPost_ret (v := .agg #[.int .i64 (n.tdiv g), .int .i64 (d.tdiv g)]) (by simp [results, Try.results79, go_sem, g0, g1]) rfl ⟨rfl, ?_⟩
    exact (((ext_alloc w _).trans' hE1).setCell (Nat.le_refl _) _).setCell (Nat.le_refl _) _
  · go_enter Try.func79, Try.ntmps79
    go_wp2_with fail
    refine (Hc.out _ n (by omega) (by omega)).mono ?_
    rintro e w' ⟨rfl, rfl⟩
    go_wp2_with fail
    refine wp_region_ext_tail 7 (by kernel_rfl) (by kernel_rfl) ?_
    simp only [List.take_succ_cons, List.take_zero, List.drop_succ_cons, List.drop_zero]
    repeat (go_big_quiet_step (fail))
    refine wpQuiet_nil ?_
    intro w1 hE1
    have g0 : w1.cell? ⟨w.heap.size, 0, none⟩ = some (.int .i64 0) := (hE1.cell' (by simp)).trans (by simp)
    have g1 : w1.cell? ⟨w.heap.size, 1, none⟩ = some (.int .i64 0) := (hE1.cell' (by simp)).trans (by simp)
    have gf : ∀ i, w1.frozen? ⟨w.heap.size, i, none⟩ = false := fun i => (hE1.frozen (p := ⟨w.heap.size, i, none⟩) (by simp)).trans (by simp)
    go_wp2_with fail
    refine bodyPost_ret (v := .agg #[.int .i64 (n.tdiv g), .int .i64 (d.tdiv g)]) (by simp [results, Try.results79, go_sem, g0, g1]) rfl ⟨rfl, ?_⟩
    exact (((ext_alloc w _).trans' hE1).setCell (Nat.le_refl _) _).setCell (Nat.le_refl _) _

/-- what LeastSum hands back -/
def RetLeast (l : List (List Atom)) (ws : List Int) (w : World) (e : Ending) (w' : World) : Prop :=
  e = .returned (.tuple #[.agg #[.int .i64 (leastNum l ws), .int .i64 (leastDen l ws)], .int .i64 (weighedErr l ws)]) ∧ Ext w w'
theorem retL_bad {l : List (List Atom)} {ws : List Int} {w w' : World} {E : Int} (h : weighedErr l ws = E) (h2 : E ≠ 0) (hE : Ext w w') : RetLeast l ws w (.returned (.tuple #[.agg #[.int .i64 0, .int .i64 0], .int .i64 E])) w' := by
  subst h
  unfold RetLeast leastNum leastDen; rw [if_neg h2, if_neg h2]; exact ⟨rfl, hE⟩
theorem retL_ok {l : List (List Atom)} {ws : List Int} {w w' : World} {N D : Int} (h : weighedErr l ws = 0) (h1 : ratN (leastTo l ws (unitsN l)) (sumTo ws l.length) = N) (h2 : ratD (leastTo l ws (unitsN l)) (sumTo ws l.length) = D) (hE : Ext w w') : RetLeast l ws w (.returned (.tuple #[.agg #[.int .i64 N, .int .i64 D], .int .i64 0])) w' := by
  unfold RetLeast leastNum leastDen; rw [if_pos h, if_pos h, h, h1, h2]; exact ⟨rfl, hE⟩
theorem gcd_end {x y n d : Int} (h0 : y = 0) (hg : Int.gcd x y = Int.gcd n d) (hx : 0 ≤ x) : x = Int.gcd n d := by
  subst h0
  rw [← hg, Int.gcd_zero_right]; omega

set_option maxRecDepth 20000 in
set_option maxHeartbeats 8000000 in
theorem f37_c (a a2 : Option Addr) (n c n2 c2 : Nat) (l : List (List Atom)) (ws : List Int) (w : World) (hl : Loads w a l) (hn : l.length = n) (hlen : n ≤ 140737488355328) (hin : ∀ j, (hj : j < l.length) → l[j].length ≤ 140737488355328) (hw : Ints w a2 ws) (hn2 : ws.length = n2) (hlen2 : n2 ≤ 140737488355328) :
    Calls Try.prog 37 #[.slice a n c, .slice a2 n2 c2] w (RetLeast l ws w) := by
  subst hn hn2
  have HB0 := Lib.hid (BlkC.new w #[.int .i64 0, .int .i64 0] 49)
  have hE0 := ext_alloc w (.cells #[.int .i64 0, .int .i64 0] 49)
  have hz0 : w.heap.size < (w.alloc (.cells #[.int .i64 0, .int .i64 0] 49)).heap.size := by simp
  go_enter Try.func37, Try.ntmps37
  go_wp2_with fail
  generalize (w.alloc (.cells #[.int .i64 0, .int .i64 0] 49)) = w0 at *
  refine (f64_c a a2 l.length c ws.length c2 l ws _ (hl.ext hE0) rfl hlen hin (hw.ext hE0) rfl hlen2).mono ?_
  rintro e w1 ⟨rfl, hE1⟩
  by_cases hq : weighedErr l ws = 0
  · have Hq := Lib.hid hq
    rw [hq]
    obtain ⟨hok, hws, hwb⟩ := weighed_ok hq
    have hN := unitsN_bd hok
    have h5 := hok.five
    have h1 := hok.pos
    have Hpl := Lib.hid (fun W (h : Loads W a l) (k : Nat) (hk : (k : Int) < totalL (l[0]?.getD [])) => f66_c a l.length c l k W h rfl hok hk)
    have Hwp := Lib.hid (fun k (hk : k < unitsN l) => wp_of (ws := ws) hok hwb hk)
    have h10 : 0 < l.length := h1
    have F0 := Lib.hid (hok.fine h10)
    have e0 : l[0]?.getD [] = l[0] := by rw [List.getElem?_eq_getElem (by omega), Option.getD_some]
    have E0 := Lib.hid e0
    rw [e0] at hN
    rw [e0] at Hpl
    have hN1 : (unitsN l : Int) ≤ totalL l[0] ∧ totalL l[0] ≤ (unitsN l : Int) ∧ unitsN l ≤ 180 := by omega
    have hws1 : ws.length ≤ l.length ∧ l.length ≤ ws.length := by omega
    clear hN hws

    have hL1 := hE0.trans' hE1
    obtain ⟨b0, o0, a0, c0, rfl, hb0, hc0, hi0'⟩ := hl.ext hL1 0 (by omega)
    simp only [Nat.add_zero] at hc0
    have Hvb := Lib.hid (fun k (hk : k < unitsN l) => var_bd hok hwb hk)
    have Hlb := Lib.hid (fun k (hk : k ≤ unitsN l) => least_bd hok hwb hk)
    have Hsb := Lib.hid (fun k (hk : k ≤ l.length) => sumR_bd (A := 1) (B := 9) hwb k hk)
    have Hwb := Lib.hid hwb
    have Hrn : Hid (∀ N D, ratN (leastTo l ws (unitsN l)) (sumTo ws l.length) = N → ratD (leastTo l ws (unitsN l)) (sumTo ws l.length) = D → ∀ w', Ext w w' → RetLeast l ws w (.returned (.tuple #[.agg #[.int .i64 N, .int .i64 D], .int .i64 0])) w') := Lib.hid (fun N D h1 h2 w' hE => retL_ok hq h1 h2 hE)
    generalize unitsN l = N at *
    clear hq hok hwb e0
    go_wp2_with fail
    go_loopw [7, 26] (fun s i wr => ∃ q : Nat, q ≤ ws.length ∧ i = .int .i64 q ∧ s = .int .i64 (sumTo ws q) ∧ Ext w1 wr) (fun _ i _ => ws.length - (intOf i).toNat)
    case atStart => exact ⟨0, Nat.zero_le _, rfl, rfl, Below.refl _ _⟩
    case round =>
      obtain ⟨q, hqq, rfl, rfl, hE2⟩ := hrel
      by_cases hlq : q < ws.length
      · obtain ⟨b8, o8, rfl, hb8, hc8⟩ := hw.ext (hL1.trans' hE2) q hlq
        rw [← gi_at] at hc8
        have t1 := Hwb.out q (by omega)
        have t4 := Hsb.out q (by omega)
        rw [show sumR (gi ws) q = sumTo ws q from rfl] at t4
        have Hs : Hid (sumTo ws (q + 1) = sumTo ws q + gi ws q) := Lib.hid rfl
        generalize gi ws q = x at *
        go_wp2_with fail
        go_roundw
        case rel => exact ⟨q + 1, by omega, by go_num, by rw [Hs.out], hE2⟩
        case measure => simp [intOf]; omega
      · obtain rfl : q = l.length := by omega
        have hge : ¬ (l.length : Int) < (ws.length : Int) := by omega
        have t4 := Hsb.out l.length (Nat.le_refl _)
        rw [show sumR (gi ws) l.length = sumTo ws l.length from rfl] at t4
        have hLr := hL1.trans' hE2
        have hc0' := (hE2.cell' hb0).trans hc0
        obtain ⟨w2, rfl⟩ : ∃ w2 : World, w2 = wr := ⟨_, rfl⟩
        have Hall : Hid (∀ k, varAt l ws k = sumTo ws l.length * sqTo ws (placesL l k) l.length - dotTo ws (placesL l k) l.length * dotTo ws (placesL l k) l.length) := Lib.hid (fun k => rfl)
        generalize sumTo ws l.length = A at *
        go_wp2_with fail
        refine (f65_c a0 _ c0 l[0] _ (hi0'.ext hE2) rfl F0.out).mono ?_
        rintro e w3 ⟨rfl, hE3⟩
        have hL3 := hLr.trans' hE3
        generalize totalL l[0] = T at *
        go_wp2_with fail
        go_loopw [10, 12, 38] (fun s _ i wr => ∃ k : Nat, k ≤ N ∧ i = .int .i64 k ∧ s = .int .i64 (leastTo l ws k) ∧ Ext w3 wr) (fun _ _ i _ => N - (intOf i).toNat)
        case atStart => exact ⟨0, Nat.zero_le _, rfl, rfl, Below.refl _ _⟩
        case round =>
          obtain ⟨k, hk, rfl, rfl, hE4⟩ := hrel
          have hL4 := hL3.trans' hE4
          have hlb := Hlb.out k hk
          by_cases hlt : k < N
          · have hltT : (k : Int) < T := by omega
            have hwp := Lib.hid (Hwp.out k hlt)
            have hvb := Hvb.out k hlt
            have Hls : Hid (leastTo l ws (k + 1) = leastTo l ws k + varAt l ws k) := Lib.hid rfl
            have Hva := Lib.hid (Hall.out k)
            go_wp2_with fail
            refine (Hpl.out _ (hl.ext hL4) k hltT).mono ?_
            rintro e w5 ⟨a5, c5, rfl, hI5, hE5⟩
            have HPl := Lib.hid (placesL_length l k)
            generalize placesL l k = P at *
            have hPL : P.length ≤ l.length ∧ l.length ≤ P.length := by have := HPl.out; omega
            have hL5 := hL4.trans' hE5
            go_wp2_with fail
            go_loopw [10, 12, 45] (fun s t i wr => ∃ q : Nat, q ≤ P.length ∧ i = .int .i64 q ∧ s = .int .i64 (leastTo l ws k + A * sqTo ws P q) ∧ t = .int .i64 (dotTo ws P q) ∧ Ext w5 wr) (fun _ _ i _ => P.length - (intOf i).toNat)
            case atStart => exact ⟨0, Nat.zero_le _, rfl, by simp [sqTo, sumR], rfl, Below.refl _ _⟩
            case round =>
              obtain ⟨q, hqq, rfl, rfl, rfl, hE7⟩ := hrel
              by_cases hlq : q < P.length
              · obtain ⟨b7, o7, rfl, hb7, hc7⟩ := hI5.ext hE7 q hlq
                obtain ⟨b8, o8, rfl, hb8, hc8⟩ := hw.ext (hL5.trans' hE7) q (by omega)
                rw [← gi_at] at hc7 hc8
                have t1 := hwp.out.w q (by omega)
                have t2 := hwp.out.p q (by omega)
                have t3 := hwp.out.term (j := q) (by omega)
                have t4' := hwp.out.bd (k := q) (by omega)
                have hqw : q < ws.length := by omega
                have Hs : Hid (dotTo ws P (q + 1) = dotTo ws P q + gi ws q * gi P q) := Lib.hid rfl
                have Hs2 : Hid (sqTo ws P (q + 1) = sqTo ws P q + gi ws q * gi P q * gi P q) := Lib.hid rfl
                have m1 := mulbd (a := A) (b := sqTo ws P q) (A := 45) (B := 45000000) (by omega) (by omega)
                generalize sqTo ws P q = S2 at *
                generalize gi ws q = x at *
                generalize gi P q = y at *
                have m2 := mulbd (a := A) (b := x) (A := 45) (B := 9) (by omega) (by omega)
                have m3 := mulbd (a := A * x) (b := y) (A := 405) (B := 1000) (by omega) (by omega)
                have m4 := mulbd (a := A * x * y) (b := y) (A := 405000) (B := 1000) (by omega) (by omega)
                obtain ⟨⟨t31, t32⟩, t33, t34⟩ := t3
                obtain ⟨t40, ⟨t41, t42⟩, t43, t44⟩ := t4'
                have He : Hid (leastTo l ws k + A * (S2 + x * y * y) = leastTo l ws k + A * S2 + A * x * y * y) := Lib.hid (by grind)
                generalize leastTo l ws k = L0 at *
                generalize dotTo ws P q = D0 at *
                go_wp2_with fail
                go_roundw
                case rel => exact ⟨q + 1, by omega, by go_num, by rw [Hs2.out, He.out], by rw [Hs.out], hE7⟩
                case measure => simp [intOf]; omega
              · obtain rfl : q = l.length := by omega
                have hge : ¬ (l.length : Int) < (P.length : Int) := by omega
                obtain ⟨t40, ⟨t41, t42⟩, t43, t44⟩ := hwp.out.bd (Nat.le_refl l.length)
                have m1 := mulbd (a := A) (b := sqTo ws P l.length) (A := 45) (B := 45000000) (by omega) (by omega)
                have m2 := mulbd (a := dotTo ws P l.length) (b := dotTo ws P l.length) (A := 45000) (B := 45000) (by omega) (by omega)
                have He : Hid (leastTo l ws (k + 1) = leastTo l ws k + A * sqTo ws P l.length - dotTo ws P l.length * dotTo ws P l.length) := Lib.hid (by rw [Hls.out, Hva.out]; omega)
                generalize leastTo l ws k = L0 at *
                generalize sqTo ws P l.length = S2 at *
                generalize dotTo ws P l.length = D0 at *
                go_wp2_with fail
                go_roundw
                case rel => exact ⟨k + 1, by omega, by go_num, by rw [He.out], (hE4.trans' hE5).trans' hE7⟩
                case measure => simp [intOf]; omega
          · obtain rfl : k = N := by omega
            have hge : ¬ (k : Int) < T := by omega
            have hA0 : 1 ≤ A ∧ A ≤ 45 := by omega
            obtain ⟨w4, rfl⟩ : ∃ w4 : World, w4 = wr := ⟨_, rfl⟩
            generalize leastTo l ws k = L0 at *
            go_wp2_with fail
            go_loopw [15, 16] (fun a b wr => ∃ x y : Int, a = .int .i64 x ∧ b = .int .i64 y ∧ 0 ≤ x ∧ x ≤ 1000000000000000 ∧ 0 ≤ y ∧ y ≤ 1000000000000000 ∧ Ext w4 wr ∧ Hid (Int.gcd x y = Int.gcd L0 A)) (fun _ b _ => (intOf b).natAbs)
            case atStart => exact ⟨L0, A, rfl, rfl, by omega, by omega, by omega, by omega, Below.refl _ _, rfl⟩
            case round =>
              obtain ⟨x, y, rfl, rfl, hx, hx1, hy, hy1, hE7, H⟩ := hrel
              by_cases h0 : y = 0
              · have hb : (y != 0) = false := by simp [h0]
                have hgx := gcd_end h0 H.out hx
                have hp := gcd_pos (n := L0) (d := A) (by omega)
                have H1 : Hid (ratN L0 A = L0.tdiv x) := Lib.hid (by unfold ratN; rw [← hgx])
                have H2 : Hid (ratD L0 A = A.tdiv x) := Lib.hid (by unfold ratD; rw [← hgx])
                rw [← hgx] at hp
                clear h0 hgx H
                have h0 : x ≠ 0 := by omega
                have b1 := tdiv_bd (a := L0) (b := x) (M := 1000000000000000) (by omega)
                have b2 := tdiv_bd (a := A) (b := x) (M := 1000000000000000) (by omega)
                have k1 : IntKind.i64.wrap (L0.tdiv x) = L0.tdiv x := IntWalk.i64_in _ (by omega)
                have k2 : IntKind.i64.wrap (A.tdiv x) = A.tdiv x := IntWalk.i64_in _ (by omega)
                have hL7 := (hE1.trans' (hE2.trans' (hE3.trans' (hE4.trans' hE7))))
                go_wp2_with fail
                refine wp_region_ext_tail 7 (by kernel_rfl) (by kernel_rfl) ?_
                simp only [List.take_succ_cons, List.take_zero, List.drop_succ_cons, List.drop_zero]
                repeat (go_big_quiet_step (fail))
                refine wpQuiet_nil ?_
                intro w8 hE8
                have HB8 := HB0.out.ext (hL7.trans' hE8)
                have g0 := HB8.cellv 0 (v := .int .i64 0) rfl
                have g1 := HB8.cellv 1 (v := .int .i64 0) rfl
                have gf := fun i => HB8.frozen i
                go_wp2_with fail
                refine bodyPost_ret (v := .tuple #[.agg #[.int .i64 (L0.tdiv x), .int .i64 (A.tdiv x)], .int .i64 0]) (by simp [results, Try.results37, go_sem, g0, g1]) rfl (Hrn.out _ _ H1.out H2.out _ ?_)
                exact (((hE0.trans' hL7).trans' hE8).setCell (Nat.le_refl _) _).setCell (Nat.le_refl _) _
              · have hb : (y != 0) = true := by simp [h0]
                obtain ⟨hm1, hm2, hm3⟩ := tmod_bd (a := x) (b := y) (M := 1000000000000000) (by omega) (by omega) h0
                have hm4 : 0 ≤ x.tmod y := Int.tmod_nonneg _ hx
                have hm : x.tmod y = x % y := Int.tmod_eq_emod_of_nonneg hx
                have hg := gcd_step x y
                rw [hm] at hm1 hm2 hm3 hm4 hg
                have Hg := Lib.hid hg
                clear hg hm
                go_wp2_with fail
                refine wp_region_ext (by kernel_rfl) (by kernel_rfl) ?_
                repeat (go_big_quiet_step (fail))
                refine wpQuiet_nil ?_
                intro w8 hE8
                go_wp2_with fail
                go_roundw
                case rel => exact ⟨y, x % y, rfl, rfl, hy, hy1, hm4, hm2, hE7.trans' hE8, Lib.hid (Hg.out.trans H.out)⟩
                case measure => simp only [intOf]; exact hm3
  · have hb : (weighedErr l ws != 0) = true := by simp [hq]
    have Hq := Lib.hid hq
    clear hq
    have HB8 := HB0.out.ext hE1
    have g0 := HB8.cellv 0 (v := .int .i64 0) rfl
    have g1 := HB8.cellv 1 (v := .int .i64 0) rfl
    have gf := fun i => HB8.frozen i
    go_wp2_with fail
    refine bodyPost_ret (v := .tuple #[.agg #[.int .i64 0, .int .i64 0], .int .i64 (weighedErr l ws)]) (by simp [results, Try.results37, go_sem, g0, g1]) rfl (retL_bad rfl Hq.out ?_)
    exact ((hE0.trans' hE1).setCell (Nat.le_refl _) _).setCell (Nat.le_refl _) _

set_option maxRecDepth 20000 in
set_option maxHeartbeats 8000000 in
theorem f38_c (a a2 : Option Addr) (n c n2 c2 : Nat) (l : List (List Atom)) (ws : List Int) (w : World) (hl : Loads w a l) (hn : l.length = n) (hlen : n ≤ 140737488355328) (hin : ∀ j, (hj : j < l.length) → l[j].length ≤ 140737488355328) (hw : Ints w a2 ws) (hn2 : ws.length = n2) (hlen2 : n2 ≤ 140737488355328) :
    Calls Try.prog 38 #[.slice a n c, .slice a2 n2 c2] w (RetLeast l ws w) := by
  subst hn hn2
  have HB0 := Lib.hid (BlkC.new w #[.int .i64 0, .int .i64 0] 49)
  have hE0 := ext_alloc w (.cells #[.int .i64 0, .int .i64 0] 49)
  have hz0 : w.heap.size < (w.alloc (.cells #[.int .i64 0, .int .i64 0] 49)).heap.size := by simp
  go_enter Try.func38, Try.ntmps38
  go_wp2_with fail
  generalize (w.alloc (.cells #[.int .i64 0, .int .i64 0] 49)) = w0 at *
  refine (f48_c a l.length c l _ (hl.ext hE0) rfl hlen hin).mono ?_
  rintro e w1 ⟨rfl, hE1⟩
  by_cases hq0 : loadsErr l = 0
  · have Hq0 := Lib.hid hq0
    rw [hq0]
    have Hww := Lib.hid (weighed_weights (ws := ws) hq0)
    clear hq0
    go_wp2_with fail
    refine (f68_c a a2 l.length c ws.length c2 l ws _ rfl hlen (hw.ext (hE0.trans' hE1)) rfl hlen2).mono ?_
    rintro e w1b ⟨rfl, hE1b⟩
    have hE1 := hE1.trans' hE1b
    rw [← Hww.out]
    by_cases hq : weighedErr l ws = 0
    · have Hq := Lib.hid hq
      rw [hq]
      obtain ⟨hok, hws, hwb⟩ := weighed_ok hq
      have hN := unitsN_bd hok
      have h5 := hok.five
      have h1 := hok.pos
      have Hpl := Lib.hid (fun W (h : Loads W a l) (k : Nat) (hk : (k : Int) < totalL (l[0]?.getD [])) => f70_c a l.length c l k W h rfl hok hk)
      have Hwp := Lib.hid (fun k (hk : k < unitsN l) => wp_of (ws := ws) hok hwb hk)
      have h10 : 0 < l.length := h1
      have F0 := Lib.hid (hok.fine h10)
      have e0 : l[0]?.getD [] = l[0] := by rw [List.getElem?_eq_getElem (by omega), Option.getD_some]
      have E0 := Lib.hid e0
      rw [e0] at hN
      rw [e0] at Hpl
      have hN1 : (unitsN l : Int) ≤ totalL l[0] ∧ totalL l[0] ≤ (unitsN l : Int) ∧ unitsN l ≤ 180 := by omega
      have hws1 : ws.length ≤ l.length ∧ l.length ≤ ws.length := by omega
      clear hN hws

      have hL1 := hE0.trans' hE1
      have Hvb := Lib.hid (fun k (hk : k < unitsN l) => var_bd hok hwb hk)
      have Hlb := Lib.hid (fun k (hk : k ≤ unitsN l) => least_bd hok hwb hk)
      have Hsb := Lib.hid (fun k (hk : k ≤ l.length) => sumR_bd (A := 1) (B := 9) hwb k hk)
      have Hw6 : Hid (∀ j, j < ws.length → 0 ≤ gi ws j ∧ gi ws j ≤ 1000000) := Lib.hid (fun j hj => by have := hwb j (by omega); omega)
      have Hrn : Hid (∀ N D, ratN (leastTo l ws (unitsN l)) (sumTo ws l.length) = N → ratD (leastTo l ws (unitsN l)) (sumTo ws l.length) = D → ∀ w', Ext w w' → RetLeast l ws w (.returned (.tuple #[.agg #[.int .i64 N, .int .i64 D], .int .i64 0])) w') := Lib.hid (fun N D h1 h2 w' hE => retL_ok hq h1 h2 hE)
      generalize unitsN l = N at *
      clear hq hok hwb e0
      go_wp2_with fail
      refine (f26_c a2 ws.length c2 ws _ (hw.ext hL1) rfl (by omega) Hw6.out).mono ?_
      rintro e w2 ⟨rfl, hE2⟩
      have hlen0 : ws.length = l.length := by omega
      rw [hlen0]
      clear hlen0
      have t4 := Hsb.out l.length (Nat.le_refl _)
      rw [show sumR (gi ws) l.length = sumTo ws l.length from rfl] at t4
      have hLr := hL1.trans' hE2
      have Hall : Hid (∀ k, varAt l ws k = sumTo ws l.length * sqTo ws (placesL l k) l.length - dotTo ws (placesL l k) l.length * dotTo ws (placesL l k) l.length) := Lib.hid (fun k => rfl)
      generalize sumTo ws l.length = A at *
      have hA0 : 1 ≤ A ∧ A ≤ 45 := by omega
      have hTb : totalL l[0] ≤ 180 := by omega
      go_wp2_with fail
      go_loopw [9, 10, 11, 12, 13, 14] (fun s i _ _ _ _ wr => ∃ k : Nat, k ≤ N ∧ i = .int .i64 k ∧ s = .int .i64 (leastTo l ws k) ∧ Ext w2 wr) (fun _ i _ _ _ _ _ => N - (intOf i).toNat)
      case atStart => exact ⟨0, Nat.zero_le _, rfl, rfl, Below.refl _ _⟩
      case round =>
        obtain ⟨k, hk, rfl, rfl, hE4⟩ := hrel
        have hL4 := hLr.trans' hE4
        have hlb := Hlb.out k hk
        obtain ⟨b0, o0, a0, c0, rfl, hb0, hc0, hi0'⟩ := hl.ext hL4 0 (by omega)
        simp only [Nat.add_zero] at hc0
        by_cases hlt : k < N
        · have hltT : (k : Int) < totalL l[0] := by omega
          have hwp := Lib.hid (Hwp.out k hlt)
          have hvb := Hvb.out k hlt
          have Hls : Hid (leastTo l ws (k + 1) = leastTo l ws k + varAt l ws k) := Lib.hid rfl
          have Hva := Lib.hid (Hall.out k)
          go_wp2_with fail
          refine (f69_c a0 _ c0 l[0] _ hi0' rfl F0.out).mono ?_
          rintro e w3 ⟨rfl, hE3⟩
          have hE4 := hE4.trans' hE3
          have hL4 := hL4.trans' hE3
          go_wp2_with fail
          refine (Hpl.out _ (hl.ext hL4) k hltT).mono ?_
          rintro e w5 ⟨a5, c5, rfl, hI5, hE5⟩
          have HPl := Lib.hid (placesL_length l k)
          generalize placesL l k = P at *
          have hPL : P.length ≤ l.length ∧ l.length ≤ P.length := by have := HPl.out; omega
          have hL5 := hL4.trans' hE5
          go_wp2_with fail
          go_loopw [12, 13, 14] (fun s t i wr => ∃ q : Nat, q ≤ P.length ∧ i = .int .i64 q ∧ s = .int .i64 (sqTo ws P q) ∧ t = .int .i64 (dotTo ws P q) ∧ Ext w5 wr) (fun _ _ i _ => P.length - (intOf i).toNat)
          case atStart => exact ⟨0, Nat.zero_le _, rfl, rfl, rfl, Below.refl _ _⟩
          case round =>
            obtain ⟨q, hqq, rfl, rfl, rfl, hE7⟩ := hrel
            by_cases hlq : q < P.length
            · obtain ⟨b7, o7, rfl, hb7, hc7⟩ := hI5.ext hE7 q hlq
              obtain ⟨b8, o8, rfl, hb8, hc8⟩ := hw.ext (hL5.trans' hE7) q (by omega)
              rw [← gi_at] at hc7 hc8
              have t1 := hwp.out.w q (by omega)
              have t2 := hwp.out.p q (by omega)
              have t3 := hwp.out.term (j := q) (by omega)
              have t4' := hwp.out.bd (k := q) (by omega)
              have hqw : q < ws.length := by omega
              have Hs : Hid (dotTo ws P (q + 1) = dotTo ws P q + gi ws q * gi P q) := Lib.hid rfl
              have Hs2 : Hid (sqTo ws P (q + 1) = sqTo ws P q + gi ws q * gi P q * gi P q) := Lib.hid rfl
              obtain ⟨⟨t31, t32⟩, t33, t34⟩ := t3
              obtain ⟨t40, ⟨t41, t42⟩, t43, t44⟩ := t4'
              generalize sqTo ws P q = S2 at *
              generalize dotTo ws P q = D0 at *
              generalize gi ws q = x at *
              generalize gi P q = y at *
              have e1 : IntKind.i64.wrap (x * y) = x * y := IntWalk.i64_in _ (by omega)
              have e2 : IntKind.i64.wrap (x * y * y) = x * y * y := IntWalk.i64_in _ (by omega)
              have e3 : IntKind.i64.wrap (S2 + x * y * y) = S2 + x * y * y := IntWalk.i64_in _ (by omega)
              have e4 : IntKind.i64.wrap (D0 + x * y) = D0 + x * y := IntWalk.i64_in _ (by omega)
              go_wp2_with fail
              refine wp_region_ext (by kernel_rfl) (by kernel_rfl) ?_
              repeat (go_big_quiet_step (fail))
              refine wpQuiet_nil ?_
              intro w8 hE8
              have hc7 := (hE8.cell' hb7).trans hc7
              have hc8 := (hE8.cell' hb8).trans hc8
              have hb7 := Nat.lt_of_lt_of_le hb7 hE8.size
              have hb8 := Nat.lt_of_lt_of_le hb8 hE8.size
              go_wp2_with fail
              refine wp_region_ext (by kernel_rfl) (by kernel_rfl) ?_
              repeat (go_big_quiet_step (fail))
              refine wpQuiet_nil ?_
              intro w9 hE9
              clear e1 e2 e3 e4
              go_wp2_with fail
              go_roundw
              case rel => exact ⟨q + 1, by omega, by go_num, by rw [Hs2.out], by rw [Hs.out], (hE7.trans' hE8).trans' hE9⟩
              case measure => simp [intOf]; omega
            · obtain rfl : q = l.length := by omega
              have hge : ¬ (l.length : Int) < (P.length : Int) := by omega
              obtain ⟨t40, ⟨t41, t42⟩, t43, t44⟩ := hwp.out.bd (Nat.le_refl l.length)
              have m1 := mulbd (a := A) (b := sqTo ws P l.length) (A := 45) (B := 45000000) (by omega) (by omega)
              have m2 := mulbd (a := dotTo ws P l.length) (b := dotTo ws P l.length) (A := 45000) (B := 45000) (by omega) (by omega)
              have He : Hid (leastTo l ws (k + 1) = leastTo l ws k + (A * sqTo ws P l.length - dotTo ws P l.length * dotTo ws P l.length)) := Lib.hid (by rw [Hls.out, Hva.out])
              generalize leastTo l ws k = L0 at *
              generalize sqTo ws P l.length = S2 at *
              generalize dotTo ws P l.length = D0 at *
              go_wp2_with fail
              go_roundw
              case rel => exact ⟨k + 1, by omega, by go_num, by rw [He.out], (hE4.trans' hE5).trans' hE7⟩
              case measure => simp [intOf]; omega
        · obtain rfl : k = N := by omega
          have hge : ¬ (k : Int) < totalL l[0] := by omega
          generalize leastTo l ws k = L0 at *
          go_wp2_with fail
          refine (f69_c a0 _ c0 l[0] _ hi0' rfl F0.out).mono ?_
          rintro e w3 ⟨rfl, hE3⟩
          go_wp2_with fail
          refine (f79_c L0 A _ (by omega) (by omega) (by omega) (by omega)).mono ?_
          unfold fracV
          rintro e w4 ⟨rfl, hE8⟩
          have hL7 := hE1.trans' (hE2.trans' (hE4.trans' hE3))
          have HB8 := HB0.out.ext (hL7.trans' hE8)
          have g0 := HB8.cellv 0 (v := .int .i64 0) rfl
          have g1 := HB8.cellv 1 (v := .int .i64 0) rfl
          have gf := fun i => HB8.frozen i
          go_wp2_with fail
          refine bodyPost_ret (v := .tuple #[.agg #[.int .i64 (ratN L0 A), .int .i64 (ratD L0 A)], .int .i64 0]) (by simp [results, Try.results38, go_sem, g0, g1]) rfl (Hrn.out _ _ rfl rfl _ ?_)
          exact (((hE0.trans' hL7).trans' hE8).setCell (Nat.le_refl _) _).setCell (Nat.le_refl _) _
    · have hb : (weighedErr l ws != 0) = true := by simp [hq]
      have Hq := Lib.hid hq
      clear hq
      have HB8 := HB0.out.ext hE1
      have g0 := HB8.cellv 0 (v := .int .i64 0) rfl
      have g1 := HB8.cellv 1 (v := .int .i64 0) rfl
      have gf := fun i => HB8.frozen i
      go_wp2_with fail
      refine bodyPost_ret (v := .tuple #[.agg #[.int .i64 0, .int .i64 0], .int .i64 (weighedErr l ws)]) (by simp [results, Try.results38, go_sem, g0, g1]) rfl (retL_bad rfl Hq.out ?_)
      exact ((hE0.trans' hE1).setCell (Nat.le_refl _) _).setCell (Nat.le_refl _) _
  · have hb : (loadsErr l != 0) = true := by simp [hq0]
    have Hww := Lib.hid (weighed_loads (ws := ws) hq0)
    have Hq := Lib.hid hq0
    clear hq0
    have HB8 := HB0.out.ext hE1
    have g0 := HB8.cellv 0 (v := .int .i64 0) rfl
    have g1 := HB8.cellv 1 (v := .int .i64 0) rfl
    have gf := fun i => HB8.frozen i
    go_wp2_with fail
    refine bodyPost_ret (v := .tuple #[.agg #[.int .i64 0, .int .i64 0], .int .i64 (loadsErr l)]) (by simp [results, Try.results38, go_sem, g0, g1]) rfl (retL_bad Hww.out Hq.out ?_)
    exact ((hE0.trans' hE1).setCell (Nat.le_refl _) _).setCell (Nat.le_refl _) _

end Go.Proofs.Ytgnjaapjaglleaa
