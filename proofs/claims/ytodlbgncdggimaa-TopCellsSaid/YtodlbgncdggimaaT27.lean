/- Contracts: Count and Cost, of the program and of the reference. -/
import Derived.Test.YtodlbgncdggimaaT26
namespace Go.Proofs.Ytodlbgncdggimaa
open Go.RowKit
attribute [local go_sem] GW.cell

def countV (l : List Site) (x y : Int) (O : List Int) : List Int := if okOwned l x y O then countL l.length O else []
def costV (l : List Site) (x y : Int) (O : List Int) : Int := if okOwned l x y O then costTo l x.toNat O O.length else 0
theorem countV_ok {l : List Site} {x y : Int} {O : List Int} (h : okOwned l x y O = true) : countV l x y O = countL l.length O := by unfold countV; rw [if_pos h]
theorem countV_no {l : List Site} {x y : Int} {O : List Int} (h : okOwned l x y O = false) : countV l x y O = [] := by unfold countV; rw [h]; rfl
theorem costV_ok {l : List Site} {x y : Int} {O : List Int} (h : okOwned l x y O = true) : costV l x y O = costTo l x.toNat O O.length := by unfold costV; rw [if_pos h]
theorem costV_no {l : List Site} {x y : Int} {O : List Int} (h : okOwned l x y O = false) : costV l x y O = 0 := by unfold costV; rw [h]; rfl
/-- what a call hands back that makes a number and an error -/
def RetI (v err : Int) (w : World) (e : Ending) (w' : World) : Prop := e = .returned (.tuple #[.int .i64 v, .int .i64 err]) ∧ Ext w w'

set_option maxHeartbeats 1000000 in
theorem f35_c (a b : Option Addr) (n c m d : Nat) (l : List Site) (O : List Int) (x y : Int) (w : World) (hl : Sites w a l) (hO : Ints w b O) (hn : l.length = n) (hm : O.length = m) (hlen : n ≤ 140737488355328) (hlm : m ≤ 140737488355328) :
    Calls Try.prog 35 #[.slice a n c, .int .i64 x, .int .i64 y, .slice b m d] w (RetInts (countV l x y O) (errOf (okOwned l x y O)) w) := by
  subst hn hm
  have hc := f62_c a b l.length c O.length d l O x y w hl hO rfl rfl hlen hlm
  rcases errOf_cases2 (okOwned l x y O) with ⟨hok, he⟩ | ⟨hok, he⟩
  · obtain ⟨hf, hq, hin⟩ := owned_spec hok
    have h5 := okSites_len (okField_bd hf).1
    rw [countV_ok hok]
    rw [he] at hc ⊢
    have Hc := Lib.hid hc
    have Hin := Lib.hid hin
    clear hc he hok hin hf hq
    go_enter Try.func35, Try.ntmps35
    go_wp2_with fail
    refine Hc.out.mono ?_
    rintro e w1 ⟨rfl, hE⟩
    clear Hc
    go_wp2_with fail
    refine (f70_c a b l.length c O.length d O w1 (hO.ext hE) rfl (by omega) hlm Hin.out).mono ?_
    rintro e w3 ⟨v, rfl, hr, hE3⟩
    obtain ⟨ad, cp, hv, hI⟩ := ints_of_row hr
    have Hv := Lib.hid hv
    clear hr hv
    go_wp2_with fail
    go_ret2
    exact ⟨ad, cp, by rw [Hv.out]; rfl, hI, hE.trans' hE3⟩
  · rw [countV_no hok]
    rw [he] at hc ⊢
    have Hc := Lib.hid hc
    clear hc he hok
    go_enter Try.func35, Try.ntmps35
    go_wp2_with fail
    refine Hc.out.mono ?_
    rintro e w1 ⟨rfl, hE⟩
    clear Hc
    go_wp2_with fail
    go_ret2
    exact retI_nil hE

set_option maxHeartbeats 1000000 in
theorem f36_c (a b : Option Addr) (n c m d : Nat) (l : List Site) (O : List Int) (x y : Int) (w : World) (hl : Sites w a l) (hO : Ints w b O) (hn : l.length = n) (hm : O.length = m) (hlen : n ≤ 140737488355328) (hlm : m ≤ 140737488355328) :
    Calls Try.prog 36 #[.slice a n c, .int .i64 x, .int .i64 y, .slice b m d] w (RetInts (countV l x y O) (errOf (okOwned l x y O)) w) := by
  subst hn hm
  have hc := f65_c a b l.length c O.length d l O x y w hl hO rfl rfl hlen hlm
  rcases errOf_cases2 (okOwned l x y O) with ⟨hok, he⟩ | ⟨hok, he⟩
  · obtain ⟨hf, hq, hin⟩ := owned_spec hok
    have h5 := okSites_len (okField_bd hf).1
    rw [countV_ok hok]
    rw [he] at hc ⊢
    have Hc := Lib.hid hc
    have Hin := Lib.hid hin
    clear hc he hok hin hf hq
    go_enter Try.func36, Try.ntmps36
    go_wp2_with fail
    refine Hc.out.mono ?_
    rintro e w1 ⟨rfl, hE⟩
    clear Hc
    go_wp2_with fail
    refine (f71_c a b l.length c O.length d O w1 (hO.ext hE) rfl (by omega) hlm Hin.out).mono ?_
    rintro e w3 ⟨v, rfl, hr, hE3⟩
    obtain ⟨ad, cp, hv, hI⟩ := ints_of_row hr
    have Hv := Lib.hid hv
    clear hr hv
    go_wp2_with fail
    go_ret2
    exact ⟨ad, cp, by rw [Hv.out]; rfl, hI, hE.trans' hE3⟩
  · rw [countV_no hok]
    rw [he] at hc ⊢
    have Hc := Lib.hid hc
    clear hc he hok
    go_enter Try.func36, Try.ntmps36
    go_wp2_with fail
    refine Hc.out.mono ?_
    rintro e w1 ⟨rfl, hE⟩
    clear Hc
    go_wp2_with fail
    go_ret2
    exact retI_nil hE

set_option maxHeartbeats 1000000 in
theorem f37_c (a b : Option Addr) (n c m d : Nat) (l : List Site) (O : List Int) (x y : Int) (w : World) (hl : Sites w a l) (hO : Ints w b O) (hn : l.length = n) (hm : O.length = m) (hlen : n ≤ 140737488355328) (hlm : m ≤ 140737488355328) :
    Calls Try.prog 37 #[.slice a n c, .int .i64 x, .int .i64 y, .slice b m d] w (RetI (costV l x y O) (errOf (okOwned l x y O)) w) := by
  subst hn hm
  have hc := f62_c a b l.length c O.length d l O x y w hl hO rfl rfl hlen hlm
  rcases errOf_cases2 (okOwned l x y O) with ⟨hok, he⟩ | ⟨hok, he⟩
  · obtain ⟨hf, hq, hin⟩ := owned_spec hok
    obtain ⟨hos, h1, h2, h3, h4⟩ := okField_bd hf
    have hp := prod_bd h1 h2 h3 h4
    rw [costV_ok hok]
    rw [he] at hc ⊢
    obtain ⟨wd, rfl⟩ := Int.eq_ofNat_of_zero_le (a := x) (by omega)
    obtain ⟨ht, rfl⟩ := Int.eq_ofNat_of_zero_le (a := y) (by omega)
    have hN : wd * ht = O.length := by
      have : ((wd * ht : Nat) : Int) = (O.length : Int) := by rw [hq]; simp
      omega
    have h144 : O.length ≤ 144 := by omega
    have Hc := Lib.hid hc
    have Hin := Lib.hid hin
    have Hos := Lib.hid hos
    have HN := Lib.hid hN
    clear hc he hok hin hf hq hos hN
    go_enter Try.func37, Try.ntmps37
    go_wp2_with fail
    refine Hc.out.mono ?_
    rintro e w1 ⟨rfl, hE⟩
    clear Hc
    go_wp2_with fail
    refine (f74_c a b l.length c O.length d l O wd ht w1 (hl.ext hE) (hO.ext hE) rfl rfl Hos.out (by omega) (by omega) (by omega) HN.out Hin.out).mono ?_
    rintro e w3 ⟨rfl, hE3⟩
    go_wp2_with fail
    go_ret2
    exact ⟨rfl, hE.trans' hE3⟩
  · rw [costV_no hok]
    rw [he] at hc ⊢
    have Hc := Lib.hid hc
    clear hc he hok
    go_enter Try.func37, Try.ntmps37
    go_wp2_with fail
    refine Hc.out.mono ?_
    rintro e w1 ⟨rfl, hE⟩
    clear Hc
    go_wp2_with fail
    go_ret2
    exact ⟨rfl, hE⟩

set_option maxHeartbeats 1000000 in
theorem f38_c (a b : Option Addr) (n c m d : Nat) (l : List Site) (O : List Int) (x y : Int) (w : World) (hl : Sites w a l) (hO : Ints w b O) (hn : l.length = n) (hm : O.length = m) (hlen : n ≤ 140737488355328) (hlm : m ≤ 140737488355328) :
    Calls Try.prog 38 #[.slice a n c, .int .i64 x, .int .i64 y, .slice b m d] w (RetI (costV l x y O) (errOf (okOwned l x y O)) w) := by
  subst hn hm
  have hc := f65_c a b l.length c O.length d l O x y w hl hO rfl rfl hlen hlm
  rcases errOf_cases2 (okOwned l x y O) with ⟨hok, he⟩ | ⟨hok, he⟩
  · obtain ⟨hf, hq, hin⟩ := owned_spec hok
    obtain ⟨hos, h1, h2, h3, h4⟩ := okField_bd hf
    have hp := prod_bd h1 h2 h3 h4
    rw [costV_ok hok]
    rw [he] at hc ⊢
    obtain ⟨wd, rfl⟩ := Int.eq_ofNat_of_zero_le (a := x) (by omega)
    obtain ⟨ht, rfl⟩ := Int.eq_ofNat_of_zero_le (a := y) (by omega)
    have hN : wd * ht = O.length := by
      have : ((wd * ht : Nat) : Int) = (O.length : Int) := by rw [hq]; simp
      omega
    have h144 : O.length ≤ 144 := by omega
    have Hc := Lib.hid hc
    have Hin := Lib.hid hin
    have Hos := Lib.hid hos
    have HN := Lib.hid hN
    clear hc he hok hin hf hq hos hN
    go_enter Try.func38, Try.ntmps38
    go_wp2_with fail
    refine Hc.out.mono ?_
    rintro e w1 ⟨rfl, hE⟩
    clear Hc
    go_wp2_with fail
    refine (f75_c a b l.length c O.length d l O wd w1 (hl.ext hE) (hO.ext hE) rfl rfl Hos.out (by omega) (by omega) (by omega) Hin.out).mono ?_
    rintro e w3 ⟨rfl, hE3⟩
    go_wp2_with fail
    go_ret2
    exact ⟨rfl, hE.trans' hE3⟩
  · rw [costV_no hok]
    rw [he] at hc ⊢
    have Hc := Lib.hid hc
    clear hc he hok
    go_enter Try.func38, Try.ntmps38
    go_wp2_with fail
    refine Hc.out.mono ?_
    rintro e w1 ⟨rfl, hE⟩
    clear Hc
    go_wp2_with fail
    go_ret2
    exact ⟨rfl, hE⟩
end Go.Proofs.Ytodlbgncdggimaa
