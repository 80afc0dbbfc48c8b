/- Contracts of cells: Least of the program; change of the reference. -/
import Derived.Test.YtodlbgncdggimaaT42
import Derived.Test.YtodlbgncdggimaaT26
import Derived.Test.YtodlbgncdggimaaT35
import Derived.Test.YtodlbgncdggimaaT27
namespace Go.Proofs.Ytodlbgncdggimaa
open Go.RowKit
attribute [local go_sem] GW.cell Oper.semAt_some wide_depth
/-- what a least cost is: that of owners with the shares that fit some weights -/
def LeastOf (l : List Site) (x y : Int) (S : List Int) (v : Int) : Prop := (okShared l x y S = false → v = 0) ∧ (okShared l x y S = true → ∃ O, ShareOf l x.toNat y.toNat S O ∧ v = costTo l x.toNat O (x.toNat * y.toNat))
theorem least_same {l : List Site} {x y : Int} {S : List Int} {v v2 : Int} (h : LeastOf l x y S v) (h2 : LeastOf l x y S v2) : v = v2 := by
  cases e : okShared l x y S with
  | false => rw [h.1 e, h2.1 e]
  | true =>
    obtain ⟨O, a, b⟩ := h.2 e
    obtain ⟨O2, a2, b2⟩ := h2.2 e
    rw [b, b2]; exact share_same a a2
def RetLst (l : List Site) (x y : Int) (S : List Int) (w : World) (e : Ending) (w' : World) : Prop := ∃ v, e = .returned (.tuple #[.int .i64 v, .int .i64 (errOf (okShared l x y S))]) ∧ LeastOf l x y S v ∧ Ext w w'
set_option maxHeartbeats 4000000 in
theorem f49_c (a b : Option Addr) (n c m d : Nat) (l : List Site) (S : List Int) (x y : Int) (w : World) (hl : Sites w a l) (hS : Ints w b S) (hn : l.length = n) (hm : S.length = m) (hlen : n ≤ 140737488355328) (hlm : m ≤ 140737488355328) :
    Calls Try.prog 49 #[.slice a n c, .int .i64 x, .int .i64 y, .slice b m d] w (RetLst l x y S w) := by
  have hc := f80_c a b n c m d l S x y w hl hS hn hm hlen hlm
  rcases errOf_cases2 (okShared l x y S) with ⟨hok, he⟩ | ⟨hok, he⟩
  · obtain ⟨hF, -, -, -⟩ := shared_spec.1 hok
    obtain ⟨h0, h1, h2, h3, h4⟩ := okField_bd hF
    have hR : ∀ v w', Ext w w' → (∃ O, ShareOf l x.toNat y.toNat S O ∧ v = costTo l x.toNat O (x.toNat * y.toNat)) → RetLst l x y S w (.returned (.tuple #[.int .i64 v, .int .i64 0])) w' := fun v w' hE h => ⟨v, by rw [he], ⟨fun h => by rw [hok] at h; simp at h, fun _ => h⟩, hE⟩
    rw [he] at hc
    obtain ⟨wd, rfl⟩ := Int.eq_ofNat_of_zero_le (a := x) (by omega)
    obtain ⟨ht, rfl⟩ := Int.eq_ofNat_of_zero_le (a := y) (by omega)
    have Hc := Lib.hid hc
    have Hok := Lib.hid hok
    have H0 := Lib.hid h0
    have HR := Lib.hid hR
    have hw : 1 ≤ wd ∧ wd ≤ 12 ∧ ht ≤ 12 := by omega
    clear hc he hok hF h0 hR
    go_enter Try.func49, Try.ntmps49
    go_wp2_with fail
    refine Hc.out.mono ?_
    rintro e w1 ⟨rfl, hE1⟩
    clear Hc
    go_wp2_with fail
    refine (f81_c a b n c m d l S wd ht w1 (hl.ext hE1) (hS.ext hE1) hn hm Hok.out).mono ?_
    rintro e w2 ⟨O, a2, c2, rfl, hO, hsh, hE2⟩
    have hE12 := hE1.trans' hE2
    have C74 := Lib.hid (f74_c a a2 n c O.length c2 l O wd ht w2 (hl.ext hE12) hO hn rfl H0.out hw.1 hw.2.1 hw.2.2 hsh.len.symm (fun j hj => hsh.own j hj))
    have HV : Hid (∃ O', ShareOf l (wd : Int).toNat (ht : Int).toNat S O' ∧ costTo l wd O O.length = costTo l (wd : Int).toNat O' ((wd : Int).toNat * (ht : Int).toNat)) := Lib.hid (by
      rw [Int.toNat_natCast, Int.toNat_natCast]
      exact ⟨O, hsh, by rw [hsh.len]⟩)
    clear hsh
    generalize costTo l wd O O.length = cv at *
    go_wp2_with fail
    refine C74.out.mono ?_
    rintro e w3 ⟨rfl, hE3⟩
    go_wp2_with fail
    go_ret2
    exact HR.out cv w3 (hE12.trans' hE3) HV.out
  · have HR : Hid (∀ w', Ext w w' → RetLst l x y S w (.returned (.tuple #[.int .i64 0, .int .i64 1])) w') := Lib.hid (fun w' hE => ⟨0, by rw [he], ⟨fun _ => rfl, fun h => by rw [hok] at h; simp at h⟩, hE⟩)
    rw [he] at hc
    have Hc := Lib.hid hc
    clear hc he hok
    go_enter Try.func49, Try.ntmps49
    go_wp2_with fail
    refine Hc.out.mono ?_
    rintro e w1 ⟨rfl, hE1⟩
    clear Hc
    go_wp2_with fail
    go_ret2
    exact HR.out w1 hE1
/-! change -/
def chgB (o : Option (Nat × Int)) : Int := match o with | none => -1 | some q => (q.1 : Int)
def chgM (o : Option (Nat × Int)) : Int := match o with | none => 0 | some q => q.2
theorem chg_skip {d : Nat → Nat → Int} {O : Nat → Nat} {i k p : Nat} (h : O p ≠ i) : chg d O i k (p + 1) = chg d O i k p := by simp only [chg]; rw [if_neg h]
theorem chg_first {d : Nat → Nat → Int} {O : Nat → Nat} {i k p : Nat} (h : O p = i) (h2 : chg d O i k p = none) : chg d O i k (p + 1) = some (p, d p k - d p i) := by simp only [chg]; rw [if_pos h, h2]
theorem chg_less {d : Nat → Nat → Int} {O : Nat → Nat} {i k p : Nat} {q : Nat × Int} (h : O p = i) (h2 : chg d O i k p = some q) (h3 : d p k - d p i < q.2) : chg d O i k (p + 1) = some (p, d p k - d p i) := by simp only [chg]; rw [if_pos h, h2]; simp only; rw [if_pos h3]
theorem chg_more {d : Nat → Nat → Int} {O : Nat → Nat} {i k p : Nat} {q : Nat × Int} (h : O p = i) (h2 : chg d O i k p = some q) (h3 : ¬ d p k - d p i < q.2) : chg d O i k (p + 1) = some q := by simp only [chg]; rw [if_pos h, h2]; simp only; rw [if_neg h3]
set_option maxRecDepth 20000 in
set_option maxHeartbeats 8000000 in
theorem f94_c (a b : Option Addr) (n c m d : Nat) (l : List Site) (O : List Int) (wd ht i k : Nat) (w : World) (hl : Sites w a l) (hO : Ints w b O) (hn : l.length = n) (hm : O.length = m) (hc : CellOk l wd ht) (hN : m ≤ wd * ht) (hOw : OwnIn O l.length) (hi : i < l.length) (hk : k < l.length) :
    Calls Try.prog 94 #[.slice a n c, .int .i64 wd, .slice b m d, .int .i64 (i : Int), .int .i64 (k : Int)] w fun e w' => e = .returned (.tuple #[.int .i64 (chgB (chg (dC l wd) (oF O) i k m)), .int .i64 (chgM (chg (dC l wd) (oF O) i k m))]) ∧ Ext w w' := by
  subst hn hm
  have hn5 := hc.n
  have hpx := hc.pix
  have hw1 := hc.w1
  have hw2 := hc.w2
  have Hc := Lib.hid hc
  have HOw := Lib.hid hOw
  have h144 : O.length ≤ 144 := by omega
  have Hcs : Hid (∀ p, p < O.length → ∀ q, chg (dC l wd) (oF O) i k p = some q → q.1 < p ∧ -3362 ≤ q.2 ∧ q.2 ≤ 3362) := Lib.hid (fun p hp q hq => by
    obtain ⟨h1, h2, h3, _⟩ := chg_some hq
    have h4 := dC_bd hc (show q.1 < wd * ht by omega) hk
    have h5 := dC_bd hc (show q.1 < wd * ht by omega) hi
    exact ⟨h1, by omega, by omega⟩)
  have Hdb : Hid (∀ p, p < O.length → ∀ q, q < l.length → 0 ≤ dC l wd p q ∧ dC l wd p q ≤ 3362) := Lib.hid (fun p hp q hq => dC_bd hc (by omega) hq)
  have Hnear : Hid (∀ q, (h : q < l.length) → ∀ k, k < 144 → Near l[q] (pxx wd k) (pxy wd k)) := Lib.hid (fun q h k hk => ⟨okSites_at hc.sites h, (pix_in2 hw1 hw2 hk).1⟩)
  have Hsi : Hid (∀ q, (h : q < l.length) → ∀ W, Ext w W → ∃ b1 o1, a = some ⟨b1, o1, none⟩ ∧ b1 < W.heap.size ∧ W.cell? ⟨b1, o1 + q * 3, none⟩ = some (.int .i64 l[q].x) ∧ W.cell? ⟨b1, o1 + q * 3 + 1, none⟩ = some (.int .i64 l[q].y) ∧ W.cell? ⟨b1, o1 + q * 3 + 2, none⟩ = some (.int .i64 l[q].w)) := Lib.hid (fun q h W hW => by
    obtain ⟨b2, o2, e2, hb2, h1, h2, h3⟩ := hl.ext hW q h
    exact ⟨b2, o2, e2, hb2, h1, h2, h3⟩)
  have hz0 : chg (dC l wd) (oF O) i k 0 = none := rfl
  have Hz0 := Lib.hid hz0
  clear hz0 hc hOw hN hpx
  go_enter Try.func94, Try.ntmps94
  go_wp2_with fail
  go_loopw [12, 13, 14] (fun v12 v13 v14 wr => ∃ p : Nat, p ≤ O.length ∧ v14 = .int .i64 p ∧ v12 = .int .i64 (chgB (chg (dC l wd) (oF O) i k p)) ∧ v13 = .int .i64 (chgM (chg (dC l wd) (oF O) i k p)) ∧ Ext w wr) (fun _ _ v14 _ => O.length - (intOf v14).toNat)
  case atStart => exact ⟨0, Nat.zero_le _, rfl, by rw [Hz0.out]; rfl, by rw [Hz0.out]; rfl, Ext.rfl' _⟩
  case round =>
    obtain ⟨p, hp, rfl, rfl, rfl, hX⟩ := hrel
    by_cases hlp : p < O.length
    case neg =>
      obtain rfl : p = O.length := by omega
      obtain ⟨ob, hob⟩ : ∃ ob, ob = chgB (chg (dC l wd) (oF O) i k O.length) := ⟨_, rfl⟩
      obtain ⟨om, hom⟩ : ∃ om, om = chgM (chg (dC l wd) (oF O) i k O.length) := ⟨_, rfl⟩
      rw [← hob, ← hom]
      have Hob := Lib.hid hob
      have Hom := Lib.hid hom
      clear hob hom
      go_wp2_with fail
      go_ret2
      rw [← Hob.out, ← Hom.out]
      exact ⟨rfl, hX⟩
    obtain ⟨ho1, ho2⟩ := oF_lt HOw.out hlp
    obtain ⟨b2, o2, e2, hb2, hc2⟩ := hO.ext hX p hlp
    subst e2
    rw [gi_def, ho2] at hc2
    have hcs := Lib.hid (Hcs.out p hlp)
    have Hsk := Lib.hid (chg_skip (d := dC l wd) (O := oF O) (i := i) (k := k) (p := p))
    have Hfi := Lib.hid (chg_first (d := dC l wd) (O := oF O) (i := i) (k := k) (p := p))
    have Hle := Lib.hid (fun q => chg_less (d := dC l wd) (O := oF O) (i := i) (k := k) (p := p) (q := q))
    have Hmo := Lib.hid (fun q => chg_more (d := dC l wd) (O := oF O) (i := i) (k := k) (p := p) (q := q))
    have hd1 := Hdb.out p hlp k hk
    have hd2 := Hdb.out p hlp i hi
    clear ho2
    generalize chg (dC l wd) (oF O) i k p = o at *
    generalize oF O p = oi at *
    by_cases hoi : oi = i
    case neg =>
      have hd : ((oi : Int) != (i : Int)) = true := by simp; omega
      have HS := Lib.hid (Hsk.out hoi)
      clear hoi Hsk Hfi Hle Hmo
      go_wp2_with fail
      go_roundw
      case rel => exact ⟨p + 1, by omega, by go_num, by rw [HS.out], by rw [HS.out], hX⟩
      case measure => simp [intOf]; omega
    have hd : ((oi : Int) != (i : Int)) = false := by simp; omega
    have hw0 : (wd : Int) ≠ 0 := by omega
    have ht1 : Int.tmod (p : Int) (wd : Int) = pxx wd p := Int.tmod_eq_emod_of_nonneg (by omega)
    have ht2 : Int.tdiv (p : Int) (wd : Int) = pxy wd p := Int.tdiv_eq_ediv_of_nonneg (by omega)
    obtain ⟨hpi, g1, g2, g3, g4⟩ := pix_in2 hw1 hw2 (k := p) (by omega)
    have hq : IntKind.i64.wrap (pxy wd p) = pxy wd p := IntWalk.i64_in _ (by omega)
    have hnk := Hnear.out k hk p (by omega)
    have hni := Hnear.out i hi p (by omega)
    obtain ⟨b1, o1, e1, hb1, x1, x2, x3⟩ := Hsi.out k hk wr hX
    obtain ⟨b1', o1', e1', hb1', y1, y2, y3⟩ := Hsi.out i hi wr hX
    rw [e1'] at e1
    simp only [Option.some.injEq, Addr.mk.injEq, and_true] at e1
    obtain ⟨rfl, rfl⟩ := e1
    subst e1'
    have Ck := Lib.hid (fun W => f61_c l[k] (pxx wd p) (pxy wd p) W hnk)
    have Ci := Lib.hid (fun W => f61_c l[i] (pxx wd p) (pxy wd p) W hni)
    rw [sv_def, ← dC_in hk] at Ck
    rw [sv_def, ← dC_in hi] at Ci
    clear hnk hni hpi
    have Ck' := Lib.hid (fun x' : GW wr => Ck.out x'.world)
    have Ci' := Lib.hid (fun x' : GW wr => Ci.out x'.world)
    generalize pxx wd p = px at *
    generalize pxy wd p = py at *
    generalize dC l wd p k = Dk at *
    generalize dC l wd p i = Di at *
    generalize l[k].x = xk at *
    generalize l[k].y = yk at *
    generalize l[k].w = wk at *
    generalize l[i].x = xi at *
    generalize l[i].y = yi at *
    generalize l[i].w = wi at *
    go_wp2_with fail
    refine wp_region_ext (by kernel_rfl) (by kernel_rfl) ?_
    repeat (go_big_quiet_step (fail))
    go_big_quiet_step ((go_at_call 61; exact quiet_ext (Ck'.out _)))
    repeat (go_big_quiet_step (fail))
    go_big_quiet_step ((go_at_call 61; exact quiet_ext (Ci'.out _)))
    repeat (go_big_quiet_step (fail))
    refine wpQuiet_nil ?_
    intro w1 hX1
    have hX2 := hX.trans' hX1
    clear x1 x2 x3 y1 y2 y3 hc2
    cases o with
    | none =>
      have HS := Lib.hid (Hfi.out hoi rfl)
      have hb : chgB none = -1 := rfl
      have hm : chgM none = 0 := rfl
      rw [hb, hm]
      clear hb hm hoi Hsk Hfi Hle Hmo
      go_wp2_with fail
      go_roundw
      case rel => exact ⟨p + 1, by omega, by go_num, by rw [HS.out]; rfl, by rw [HS.out]; rfl, hX2⟩
      case measure => simp [intOf]; omega
    | some q =>
      obtain ⟨z1, z2, z3⟩ := hcs.out q rfl
      have hb : chgB (some q) = (q.1 : Int) := rfl
      have hm : chgM (some q) = q.2 := rfl
      rw [hb, hm]
      have Hb := Lib.hid hb
      have Hm := Lib.hid hm
      have Hle' := Lib.hid (Hle.out q hoi rfl)
      have Hmo' := Lib.hid (Hmo.out q hoi rfl)
      clear hb hm hoi Hsk Hfi Hle Hmo hcs
      obtain ⟨q1, q2⟩ := q
      simp only at z1 z2 z3 Hle' Hmo' ⊢
      have hneg : decide ((q1 : Int) < 0) = false := decide_eq_false (by omega)
      by_cases hlt : Dk - Di < q2
      · have hd : decide (Dk - Di < q2) = true := decide_eq_true hlt
        have HS := Lib.hid (Hle'.out hlt)
        clear hlt Hle' Hmo'
        go_wp2_with fail
        go_roundw
        case rel => exact ⟨p + 1, by omega, by go_num, by rw [HS.out]; rfl, by rw [HS.out]; rfl, hX2⟩
        case measure => simp [intOf]; omega
      · have hd : decide (Dk - Di < q2) = false := decide_eq_false hlt
        have HS := Lib.hid (Hmo'.out (by omega))
        clear hlt Hle' Hmo'
        go_wp2_with fail
        go_roundw
        case rel => exact ⟨p + 1, by omega, by go_num, by rw [HS.out]; rfl, by rw [HS.out]; rfl, hX2⟩
        case measure => simp [intOf]; omega
end Go.Proofs.Ytodlbgncdggimaa
