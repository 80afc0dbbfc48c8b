/- Contract of the reference: Centre. -/
import Derived.Test.YtodlbgncdggimaaT28
namespace Go.Proofs.Ytodlbgncdggimaa
open Go.RowKit
attribute [local go_sem] GW.cell

/-- the sums of the places of the pixels that are owned by i, among the first k -/
def cenX (wd : Nat) (O : List Int) (i : Int) : Nat → Int
  | 0 => 0
  | k + 1 => cenX wd O i k + (if O[k]?.getD 0 = i then pxx wd k else 0)
def cenY (wd : Nat) (O : List Int) (i : Int) : Nat → Int
  | 0 => 0
  | k + 1 => cenY wd O i k + (if O[k]?.getD 0 = i then pxy wd k else 0)
theorem cen_bd {wd : Nat} (hw1 : 1 ≤ wd) (hw2 : wd ≤ 12) (O : List Int) (i : Int) : ∀ k, k ≤ 144 → (0 ≤ cenX wd O i k ∧ cenX wd O i k ≤ 144 * k) ∧ (0 ≤ cenY wd O i k ∧ cenY wd O i k ≤ 144 * k)
  | 0, _ => by simp [cenX, cenY]
  | k + 1, hk => by
    obtain ⟨⟨h1, h2⟩, h3, h4⟩ := cen_bd hw1 hw2 O i k (by omega)
    obtain ⟨_, p1, p2, p3, p4⟩ := pix_in2 hw1 hw2 (k := k) (by omega)
    unfold cenX cenY
    split <;> omega
theorem cen_yes {wd k : Nat} {O : List Int} {i : Int} (hk : k < O.length) (h : O[k] = i) : cntTo O i (k + 1) = cntTo O i k + 1 ∧ cenX wd O i (k + 1) = cenX wd O i k + pxx wd k ∧ cenY wd O i (k + 1) = cenY wd O i k + pxy wd k := by
  simp [cntTo, cenX, cenY, hk, h]
theorem cen_not {wd k : Nat} {O : List Int} {i : Int} (hk : k < O.length) (h : O[k] ≠ i) : cntTo O i (k + 1) = cntTo O i k ∧ cenX wd O i (k + 1) = cenX wd O i k ∧ cenY wd O i (k + 1) = cenY wd O i k := by
  simp [cntTo, cenX, cenY, hk, h]

def cenErr (l : List Site) (x y : Int) (O : List Int) (i : Int) : Int := if okSites l then (if isNo l i then (if okOwned l x y O then (if cntTo O i O.length = 0 then 4 else 0) else 1) else 4) else 1
def ratN (n d : Int) : Int := n.tdiv (sgcd n d)
def ratD (n d : Int) : Int := d.tdiv (sgcd n d)
theorem ratV_is (n d : Int) : ratV n d = .agg #[.int .i64 (ratN n d), .int .i64 (ratD n d)] := rfl
def rat2 (n1 d1 n2 d2 : Int) : Value := .agg #[.int .i64 (ratN n1 d1), .int .i64 (ratD n1 d1), .int .i64 (ratN n2 d2), .int .i64 (ratD n2 d2)]
def ratZ : Value := .agg #[.int .i64 0, .int .i64 0, .int .i64 0, .int .i64 0]
def cenV (l : List Site) (x y : Int) (O : List Int) (i : Int) : Value :=
  if okSites l && (isNo l i && (okOwned l x y O && !decide (cntTo O i O.length = 0))) then rat2 (cenX x.toNat O i O.length) (cntTo O i O.length : Nat) (cenY x.toNat O i O.length) (cntTo O i O.length : Nat) else ratZ

theorem cen_bad {l : List Site} {x y : Int} {O : List Int} {i : Int} (h : okSites l = false) : cenErr l x y O i = 1 ∧ cenV l x y O i = ratZ := by simp [cenErr, cenV, h]
theorem cen_no {l : List Site} {x y : Int} {O : List Int} {i : Int} (h : okSites l = true) (h2 : isNo l i = false) : cenErr l x y O i = 4 ∧ cenV l x y O i = ratZ := by simp [cenErr, cenV, h, h2]
theorem cen_own {l : List Site} {x y : Int} {O : List Int} {i : Int} (h : okSites l = true) (h2 : isNo l i = true) (h3 : okOwned l x y O = false) : cenErr l x y O i = 1 ∧ cenV l x y O i = ratZ := by simp [cenErr, cenV, h, h2, h3]
theorem cen_none {l : List Site} {x y : Int} {O : List Int} {i : Int} (h : okSites l = true) (h2 : isNo l i = true) (h3 : okOwned l x y O = true) (h4 : cntTo O i O.length = 0) : cenErr l x y O i = 4 ∧ cenV l x y O i = ratZ := by simp [cenErr, cenV, h, h2, h3, h4]
theorem cen_ok {l : List Site} {x y : Int} {O : List Int} {i : Int} (h : okSites l = true) (h2 : isNo l i = true) (h3 : okOwned l x y O = true) (h4 : cntTo O i O.length ≠ 0) : cenErr l x y O i = 0 ∧ cenV l x y O i = rat2 (cenX x.toNat O i O.length) (cntTo O i O.length : Nat) (cenY x.toNat O i O.length) (cntTo O i O.length : Nat) := by simp [cenErr, cenV, h, h2, h3, h4]

def RetV (v : Value) (err : Int) (w : World) (e : Ending) (w' : World) : Prop := e = .returned (.tuple #[v, .int .i64 err]) ∧ Ext w w'

theorem z56 : ∀ w : World, Ext w (w.alloc (.cells #[.int .i64 0, .int .i64 0, .int .i64 0, .int .i64 0] 56)) := fun w => ext_alloc w _

set_option maxHeartbeats 4000000 in
theorem f40_c (a b : Option Addr) (n c m d : Nat) (l : List Site) (O : List Int) (x y i : Int) (w : World) (hl : Sites w a l) (hO : Ints w b O) (hn : l.length = n) (hm : O.length = m) (hlen : n ≤ 140737488355328) (hlm : m ≤ 140737488355328) :
    Calls Try.prog 40 #[.slice a n c, .int .i64 x, .int .i64 y, .slice b m d, .int .i64 i] w (RetV (cenV l x y O i) (cenErr l x y O i) w) := by
  subst hn hm
  have hc := fun W (h : Sites W a l) => f59_c a l.length c l i W h rfl hlen
  have hz := z56 w
  have Hl := Lib.hid (hl.ext hz)
  have HO := Lib.hid (hO.ext hz)
  rcases Bool.eq_false_or_eq_true (okSites l) with hok | hok
  · rcases Bool.eq_false_or_eq_true (isNo l i) with hi | hi
    · simp only [siteErr_ok hok hi] at hc
      have Hc := Lib.hid hc
      have hc2 := fun W (h : Sites W a l) (k : Ints W b O) => f65_c a b l.length c O.length d l O x y W h k rfl rfl hlen hlm
      rcases Bool.eq_false_or_eq_true (okOwned l x y O) with how | how
      · have he : errOf (okOwned l x y O) = 0 := by rw [how]; rfl
        simp only [he] at hc2
        obtain ⟨hf, hq, hin⟩ := owned_spec how
        obtain ⟨hos, h1, h2, h3, h4⟩ := okField_bd hf
        have hp := prod_bd h1 h2 h3 h4
        obtain ⟨wd, rfl⟩ := Int.eq_ofNat_of_zero_le (a := x) (by omega)
        have h144 : O.length ≤ 144 := by omega
        have hcb := cen_bd (show 1 ≤ wd by omega) (show wd ≤ 12 by omega) O i
        have Hcb := Lib.hid hcb
        have Hc2 := Lib.hid hc2
        have Hz := Lib.hid hz
        have hfin : (cntTo O i O.length = 0 ∧ cenErr l wd y O i = 4 ∧ cenV l wd y O i = ratZ) ∨ (cntTo O i O.length ≠ 0 ∧ cenErr l wd y O i = 0 ∧ cenV l wd y O i = rat2 (cenX wd O i O.length) (cntTo O i O.length : Nat) (cenY wd O i O.length) (cntTo O i O.length : Nat)) := by
          by_cases h : cntTo O i O.length = 0
          · exact .inl ⟨h, cen_none hok hi how h⟩
          · exact .inr ⟨h, cen_ok hok hi how h⟩
        have Hfin := Lib.hid hfin
        clear hc hc2 hok hi how he hf hq hin hos hcb hz hfin
        go_enter Try.func40, Try.ntmps40
        go_wp2_with fail
        refine (Hc.out _ Hl.out).mono ?_
        rintro e w1 ⟨rfl, rfl⟩
        clear Hc
        go_wp2_with fail
        refine (Hc2.out _ Hl.out HO.out).mono ?_
        rintro e w1 ⟨rfl, hE1⟩
        clear Hc2
        have hzc : ∀ j, j < 4 → w1.cell? ⟨w.heap.size, j, none⟩ = some (.int .i64 0) := fun j hj => by
          refine (hE1.cell' (by simp)).trans ?_
          have : j = 0 ∨ j = 1 ∨ j = 2 ∨ j = 3 := by omega
          rcases this with rfl | rfl | rfl | rfl <;> simp
        have hzf : ∀ j, w1.frozen? ⟨w.heap.size, j, none⟩ = false := fun j => (hE1.frozen (p := ⟨w.heap.size, j, none⟩) (by simp)).trans (by simp)
        have hsz := hE1.size
        simp only [World.size_alloc] at hsz
        have Hzc := Lib.hid hzc
        have Hzf := Lib.hid hzf
        have hE1' := Hz.out.trans' hE1
        clear hzc hzf hE1
        go_wp2_with fail
        go_loopw [14, 15, 16, 17] (fun cn sx sy p wr => ∃ k : Nat, k ≤ O.length ∧ p = .int .i64 k ∧ cn = .int .i64 (cntTo O i k : Nat) ∧ sx = .int .i64 (cenX wd O i k) ∧ sy = .int .i64 (cenY wd O i k) ∧ Ext w1 wr) (fun _ _ _ p _ => O.length - (intOf p).toNat)
        case atStart => exact ⟨0, by omega, rfl, rfl, rfl, rfl, Below.refl _ _⟩
        case round =>
          obtain ⟨k, hk, rfl, rfl, rfl, rfl, hE⟩ := hrel
          obtain ⟨⟨q1, q2⟩, q3, q4⟩ := Hcb.out k (by omega)
          have q5 := cntTo_le O i k
          by_cases hlt : k < O.length
          · obtain ⟨hpi, p1, p2, p3, p4⟩ := pix_in2 (show 1 ≤ wd by omega) (show wd ≤ 12 by omega) (k := k) (by omega)
            have hw0 : (wd : Int) ≠ 0 := by omega
            have ht1 : Int.tmod (k : Int) (wd : Int) = pxx wd k := Int.tmod_eq_emod_of_nonneg (by omega)
            have ht2 : Int.tdiv (k : Int) (wd : Int) = pxy wd k := Int.tdiv_eq_ediv_of_nonneg (by omega)
            have hq : IntKind.i64.wrap (pxy wd k) = pxy wd k := IntWalk.i64_in _ (by omega)
            obtain ⟨b2, o2, rfl, hb2, hc2⟩ := hO.ext (hE1'.trans' hE) k hlt
            rw [List.getElem?_eq_getElem hlt, Option.getD_some] at hc2
            by_cases heq : O[k] = i
            · have Hs := Lib.hid (cen_yes (wd := wd) hlt heq)
              have hb : (O[k] == i) = true := by simp [heq]
              clear heq
              go_wp2_with fail
              go_roundw
              case rel => exact ⟨k + 1, by omega, by go_num, by rw [Hs.out.1]; go_num, by rw [Hs.out.2.1], by rw [Hs.out.2.2], hE⟩
              case measure => simp [intOf]; omega
            · have Hs := Lib.hid (cen_not (wd := wd) hlt heq)
              have hb : (O[k] == i) = false := by simp [heq]
              clear heq
              go_wp2_with fail
              go_roundw
              case rel => exact ⟨k + 1, by omega, by go_num, by rw [Hs.out.1], by rw [Hs.out.2.1], by rw [Hs.out.2.2], hE⟩
              case measure => simp [intOf]; omega
          · obtain rfl : k = O.length := by omega
            have z0 := (hE.cell' (by omega)).trans (Hzc.out 0 (by omega))
            have z1 := (hE.cell' (by omega)).trans (Hzc.out 1 (by omega))
            have z2 := (hE.cell' (by omega)).trans (Hzc.out 2 (by omega))
            have z3 := (hE.cell' (by omega)).trans (Hzc.out 3 (by omega))
            have zf : ∀ j, wr.frozen? ⟨w.heap.size, j, none⟩ = false := fun j => (hE.frozen (p := ⟨w.heap.size, j, none⟩) (by show w.heap.size < _; omega)).trans (Hzf.out j)
            rcases Hfin.out with ⟨h0, e1, e2⟩ | ⟨h0, e1, e2⟩
            · have hb : (((cntTo O i O.length : Nat) : Int) == 0) = true := by rw [h0]; rfl
              have E1 := Lib.hid e1
              have E2 := Lib.hid e2
              clear h0 e1 e2
              go_wp2_with fail
              refine bodyPost_ret (v := .tuple #[ratZ, .int .i64 4]) (by simp [results, Try.results40, go_sem, z0, z1, z2, z3, ratZ]) rfl ⟨by rw [E1.out, E2.out], ?_⟩
              exact (((((hE1'.trans' hE).setCell (Nat.le_refl _) _).setCell (Nat.le_refl _) _).setCell (Nat.le_refl _) _).setCell (Nat.le_refl _) _)
            · have hb : (((cntTo O i O.length : Nat) : Int) == 0) = false := by simp; omega
              have hc0 : (0 : Int) < ((cntTo O i O.length : Nat) : Int) := by omega
              have hc1 : ((cntTo O i O.length : Nat) : Int) ≤ 144 := by omega
              have E1 := Lib.hid e1
              have E2 := Lib.hid e2
              clear h0 e1 e2
              generalize ((cntTo O i O.length : Nat) : Int) = cn at *
              generalize cenX wd O i O.length = sx at *
              generalize cenY wd O i O.length = sy at *
              have hr1 := fun W => f77_c sx cn W hc0 (by omega) (by omega) (by omega)
              have hr2 := fun W => f77_c sy cn W hc0 (by omega) (by omega) (by omega)
              simp only [ratV_is] at hr1 hr2
              have Hr1 := Lib.hid hr1
              have Hr2 := Lib.hid hr2
              clear hr1 hr2
              go_wp2_with fail
              refine (Hr1.out _).mono ?_
              rintro e w2 ⟨rfl, hE2⟩
              clear Hr1
              go_wp2_with fail
              refine (Hr2.out _).mono ?_
              rintro e w3 ⟨rfl, hE3⟩
              clear Hr2
              have hE4 := hE.trans' (hE2.trans' hE3)
              have z0 := (hE4.cell' (by omega)).trans (Hzc.out 0 (by omega))
              have z1 := (hE4.cell' (by omega)).trans (Hzc.out 1 (by omega))
              have z2 := (hE4.cell' (by omega)).trans (Hzc.out 2 (by omega))
              have z3 := (hE4.cell' (by omega)).trans (Hzc.out 3 (by omega))
              have zf : ∀ j, w3.frozen? ⟨w.heap.size, j, none⟩ = false := fun j => (hE4.frozen (p := ⟨w.heap.size, j, none⟩) (by show w.heap.size < _; omega)).trans (Hzf.out j)
              go_wp2_with fail
              refine bodyPost_ret (v := .tuple #[rat2 sx cn sy cn, .int .i64 0]) (by simp [results, Try.results40, go_sem, z0, z1, z2, z3, rat2]) rfl ⟨by rw [E1.out, E2.out], ?_⟩
              exact (((((hE1'.trans' hE4).setCell (Nat.le_refl _) _).setCell (Nat.le_refl _) _).setCell (Nat.le_refl _) _).setCell (Nat.le_refl _) _)
      · have he : errOf (okOwned l x y O) = 1 := by rw [how]; rfl
        simp only [he] at hc2
        rw [(cen_own hok hi how).1, (cen_own hok hi how).2]
        have Hc2 := Lib.hid hc2
        have Hz := Lib.hid hz
        clear hc hc2 hok hi how he hz
        go_enter Try.func40, Try.ntmps40
        go_wp2_with fail
        refine (Hc.out _ Hl.out).mono ?_
        rintro e w1 ⟨rfl, rfl⟩
        clear Hc
        go_wp2_with fail
        refine (Hc2.out _ Hl.out HO.out).mono ?_
        rintro e w1 ⟨rfl, hE1⟩
        clear Hc2
        have g0 : w1.cell? ⟨w.heap.size, 0, none⟩ = some (.int .i64 0) := (hE1.cell' (by simp)).trans (by simp)
        have g1 : w1.cell? ⟨w.heap.size, 1, none⟩ = some (.int .i64 0) := (hE1.cell' (by simp)).trans (by simp)
        have g2 : w1.cell? ⟨w.heap.size, 2, none⟩ = some (.int .i64 0) := (hE1.cell' (by simp)).trans (by simp)
        have g3 : w1.cell? ⟨w.heap.size, 3, none⟩ = some (.int .i64 0) := (hE1.cell' (by simp)).trans (by simp)
        have gf : ∀ i, w1.frozen? ⟨w.heap.size, i, none⟩ = false := fun i => (hE1.frozen (p := ⟨w.heap.size, i, none⟩) (by simp)).trans (by simp)
        have hE1' := Hz.out.trans' hE1
        clear hE1
        go_wp2_with fail
        refine bodyPost_ret (v := .tuple #[ratZ, .int .i64 1]) (by simp [results, Try.results40, go_sem, g0, g1, g2, g3, ratZ]) rfl ⟨rfl, ?_⟩
        exact ((((hE1'.setCell (Nat.le_refl _) _).setCell (Nat.le_refl _) _).setCell (Nat.le_refl _) _).setCell (Nat.le_refl _) _)
    · simp only [siteErr_no hok hi] at hc
      rw [(cen_no hok hi).1, (cen_no hok hi).2]
      have Hc := Lib.hid hc
      have Hz := Lib.hid hz
      clear hc hok hi hz
      go_enter Try.func40, Try.ntmps40
      go_wp2_with fail
      refine (Hc.out _ Hl.out).mono ?_
      rintro e w1 ⟨rfl, rfl⟩
      go_wp2_with fail
      refine bodyPost_ret (v := .tuple #[ratZ, .int .i64 4]) (by simp [results, Try.results40, go_sem, ratZ]) rfl ⟨rfl, Hz.out⟩
  · simp only [siteErr_bad hok] at hc
    rw [(cen_bad hok).1, (cen_bad hok).2]
    have Hc := Lib.hid hc
    have Hz := Lib.hid hz
    clear hc hok hz
    go_enter Try.func40, Try.ntmps40
    go_wp2_with fail
    refine (Hc.out _ Hl.out).mono ?_
    rintro e w1 ⟨rfl, rfl⟩
    go_wp2_with fail
    refine bodyPost_ret (v := .tuple #[ratZ, .int .i64 1]) (by simp [results, Try.results40, go_sem, ratZ]) rfl ⟨rfl, Hz.out⟩
end Go.Proofs.Ytodlbgncdggimaa
