/- Contract of the reference: Fits. -/
import Derived.Test.YtodlbgncdggimaaT17
namespace Go.Proofs.Ytodlbgncdggimaa
open Go.RowKit
attribute [local go_sem] GW.cell

def fitAt (l : List Site) (wd : Nat) (O : List Int) (j : Nat) : Prop := pw l (pxx wd j) (pxy wd j) (O[j]?.getD 0).toNat = leastP l (pxx wd j) (pxy wd j)
instance (l : List Site) (wd : Nat) (O : List Int) (j : Nat) : Decidable (fitAt l wd O j) := by unfold fitAt; infer_instance
def fitsB (l : List Site) (wd : Nat) (O : List Int) : Bool := (List.range O.length).all fun j => decide (fitAt l wd O j)
def fitsVal (l : List Site) (x y : Int) (O : List Int) : Bool := okOwned l x y O && fitsB l x.toNat O
theorem fitsB_yes {l : List Site} {wd : Nat} {O : List Int} (h : ∀ j, j < O.length → fitAt l wd O j) : fitsB l wd O = true := by
  simpa [fitsB] using h
theorem fitsB_no {l : List Site} {wd : Nat} {O : List Int} {j : Nat} (hj : j < O.length) (h : ¬ fitAt l wd O j) : fitsB l wd O = false := by
  rw [← Bool.not_eq_true]
  intro h2
  have := List.all_eq_true.1 h2 j (List.mem_range.2 hj)
  exact h (of_decide_eq_true this)

/-- what a call hands back that makes a Bool and an error -/
def RetB (b : Bool) (err : Int) (w : World) (e : Ending) (w' : World) : Prop := e = .returned (.tuple #[.bool b, .int .i64 err]) ∧ Ext w w'

set_option maxHeartbeats 2000000 in
theorem f26_c (a b : Option Addr) (n c m d : Nat) (l : List Site) (O : List Int) (x y : Int) (w : World) (hl : Sites w a l) (hO : Ints w b O) (hn : l.length = n) (hm : O.length = m) (hlen : n ≤ 140737488355328) (hlm : m ≤ 140737488355328) :
    Calls Try.prog 26 #[.slice a n c, .int .i64 x, .int .i64 y, .slice b m d] w (RetB (fitsVal l x y O) (errOf (okOwned l x y O)) w) := by
  subst hn hm
  have hc := f65_c a b l.length c O.length d l O x y w hl hO rfl rfl hlen hlm
  rcases Bool.eq_false_or_eq_true (okOwned l x y O) with hok | hok
  · obtain ⟨hf, hq, hno⟩ := owned_spec hok
    obtain ⟨hos, h1, h2, h3, h4⟩ := okField_bd hf
    have hp := prod_bd h1 h2 h3 h4
    obtain ⟨wd, rfl⟩ := Int.eq_ofNat_of_zero_le (a := x) (by omega)
    have he : errOf (okOwned l wd y O) = 0 := by rw [hok]; rfl
    have hv : fitsVal l wd y O = fitsB l wd O := by rw [fitsVal, hok]; simp
    rw [he] at hc
    rw [he, hv]
    have hO144 : O.length ≤ 144 := by omega
    have Hno := Lib.hid hno
    have Hos := Lib.hid hos
    have Hst := Lib.hid (fun i (h : i < l.length) => okSites_at hos h)
    have Hc := Lib.hid hc
    clear hno hos hc hf hq hok he hv
    go_enter Try.func26, Try.ntmps26
    go_wp2_with fail
    refine Hc.out.mono ?_
    rintro e w1 ⟨rfl, hE1⟩
    clear Hc
    go_wp2_with fail
    go_loopw [11] (fun i wr => ∃ k : Nat, k ≤ O.length ∧ i = .int .i64 k ∧ Ext w wr ∧ Hid (∀ j, j < k → fitAt l wd O j)) (fun i _ => O.length - (intOf i).toNat)
    case atStart => exact ⟨0, by omega, rfl, hE1, fun j hj => by omega⟩
    case round =>
      obtain ⟨k, hk, rfl, hE, H⟩ := hrel
      by_cases hlt : k < O.length
      · go_wp2_with fail
        refine (f66_c a l.length c l wd k wr (hl.ext hE) rfl Hos.out (by omega) (by omega) (by omega)).mono ?_
        rintro e w2 ⟨rfl, hE2⟩
        have hE3 := hE.trans' hE2
        obtain ⟨i, hi, hil⟩ := Hno.out k hlt
        have hfa : fitAt l wd O k ↔ pow l[i] (pxx wd k) (pxy wd k) = leastP l (pxx wd k) (pxy wd k) := by
          unfold fitAt
          rw [List.getElem?_eq_getElem hlt, Option.getD_some, hi, Int.toNat_natCast, pw_in hil]
        obtain ⟨b2, o2, rfl, hb2, hc2⟩ := hO.ext hE3 k hlt
        rw [List.getElem?_eq_getElem hlt, Option.getD_some, hi] at hc2
        obtain ⟨b1, o1, rfl, hb1, hcx, hcy, hcw⟩ := hl.ext hE3 i hil
        have Hfa := Lib.hid hfa
        have Hst2 := Lib.hid (Hst.out i hil)
        clear hi hfa
        by_cases heq : pow l[i] (pxx wd k) (pxy wd k) = leastP l (pxx wd k) (pxy wd k)
        · have hb : (pow l[i] (pxx wd k) (pxy wd k) != leastP l (pxx wd k) (pxy wd k)) = false := by simp [heq]
          have Heq := Lib.hid heq
          clear heq
          go_wp2_with fail
          refine (f67_c l[i] wd k _ Hst2.out (by omega) (by omega) (by omega)).mono ?_
          rintro e w3 ⟨rfl, hE4⟩
          go_wp2_with fail
          go_roundw
          case rel =>
            refine ⟨k + 1, by omega, by go_num, hE3.trans' hE4, fun j hj => ?_⟩
            by_cases e : j = k
            · subst e; exact Hfa.out.2 Heq.out
            · exact H.out j (by omega)
          case measure => simp [intOf]; omega
        · have hb : (pow l[i] (pxx wd k) (pxy wd k) != leastP l (pxx wd k) (pxy wd k)) = true := by simp [heq]
          have Heq := Lib.hid heq
          clear heq
          go_wp2_with fail
          refine (f67_c l[i] wd k _ Hst2.out (by omega) (by omega) (by omega)).mono ?_
          rintro e w3 ⟨rfl, hE4⟩
          go_wp2_with fail
          go_ret2
          exact ⟨by rw [fitsB_no hlt (fun h => Heq.out (Hfa.out.1 h))]; rfl, hE3.trans' hE4⟩
      · obtain rfl : k = O.length := by omega
        go_wp2_with fail
        go_ret2
        exact ⟨by rw [fitsB_yes H.out]; rfl, hE⟩
  · have he : errOf (okOwned l x y O) = 1 := by rw [hok]; rfl
    have hv : fitsVal l x y O = false := by rw [fitsVal, hok]; rfl
    rw [he] at hc
    rw [he, hv]
    have Hc := Lib.hid hc
    clear hc hok he hv
    go_enter Try.func26, Try.ntmps26
    go_wp2_with fail
    refine Hc.out.mono ?_
    rintro e w1 ⟨rfl, hE1⟩
    clear Hc
    go_wp2_with fail
    go_ret2
    exact ⟨rfl, hE1⟩
end Go.Proofs.Ytodlbgncdggimaa
