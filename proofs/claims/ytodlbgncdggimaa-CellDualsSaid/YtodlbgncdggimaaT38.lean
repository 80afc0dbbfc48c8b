/- Contract of the program: Dual. -/
import Derived.Test.YtodlbgncdggimaaT37
namespace Go.Proofs.Ytodlbgncdggimaa
open Go.RowKit
attribute [local go_sem] GW.cell

set_option maxHeartbeats 2000000 in
theorem f50_c (a b : Option Addr) (n c m d : Nat) (l : List Site) (S : List Int) (x y : Int) (w : World) (hl : Sites w a l) (hS : Ints w b S) (hn : l.length = n) (hm : S.length = m) (hlen : n ≤ 140737488355328) (hlm : m ≤ 140737488355328) :
    Calls Try.prog 50 #[.slice a n c, .int .i64 x, .int .i64 y, .slice b m d] w (RetI (dualV l x y S) (errOf (okShared l x y S)) w) := by
  have hc := f80_c a b n c m d l S x y w hl hS hn hm hlen hlm
  rcases errOf_cases2 (okShared l x y S) with ⟨hok, he⟩ | ⟨hok, he⟩
  · obtain ⟨hF, -, -, -⟩ := shared_spec.1 hok
    obtain ⟨-, h1, h2, h3, h4⟩ := okField_bd hF
    rw [he] at hc ⊢
    obtain ⟨wd, rfl⟩ := Int.eq_ofNat_of_zero_le (a := x) (by omega)
    obtain ⟨ht, rfl⟩ := Int.eq_ofNat_of_zero_le (a := y) (by omega)
    have Hc := Lib.hid hc
    have Hok := Lib.hid hok
    clear hc he hok hF
    go_enter Try.func50, Try.ntmps50
    go_wp2_with fail
    refine Hc.out.mono ?_
    rintro e w1 ⟨rfl, hE1⟩
    clear Hc
    go_wp2_with fail
    refine (f82_c a b n c m d l S wd ht w1 (hl.ext hE1) (hS.ext hE1) hn hm Hok.out).mono ?_
    rintro e w2 ⟨rfl, hE2⟩
    generalize dualV l wd ht S = dv at *
    go_wp2_with fail
    go_ret2
    exact ⟨rfl, hE1.trans' hE2⟩
  · rw [dual_no hok]
    rw [he] at hc ⊢
    have Hc := Lib.hid hc
    clear hc he hok
    go_enter Try.func50, Try.ntmps50
    go_wp2_with fail
    refine Hc.out.mono ?_
    rintro e w1 ⟨rfl, hE1⟩
    clear Hc
    go_wp2_with fail
    go_ret2
    exact ⟨rfl, hE1⟩
end Go.Proofs.Ytodlbgncdggimaa
