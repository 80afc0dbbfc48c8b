/- Contracts of mass and price, where all fits: CheckPlan, Cost. -/
import Derived.Test.YtfhgnmijigdlmaaU4
namespace Go.Proofs.Ytfhgnmijigdlmaa.Tr
open Go.RowKit
attribute [local go_sem] GW.cell
set_option maxHeartbeats 4000000 in
theorem f61_ok (ax bx pa : Option Addr) (n m ca cb cp : Nat) (x y : List Int) (P : Tbl) (w : World) (hx : Ints w ax x) (hxn : x.length = n) (hy : Ints w bx y) (hyn : y.length = m) (hp : Table w pa P) (h1 : massB x = true) (h2 : massB y = true) (hs : sm x = sm y) (hT : TOk n m 0 150 P) (hP : PlanT n m (gi x) (gi y) (tg P)) :
    Calls Try.prog 61 #[.slice ax n ca, .slice bx m cb, .slice pa n cp] w fun e w' => e = .returned (.int .i64 0) ∧ Ext w w' := by
  have hn5 := hT.n5
  have hm5 := hT.m5
  have hR : endR n P m = x := list_ext (endRt_len _ _ _ _ _) hxn (fun i hi => by rw [endR_at hi]; exact hP.rows i hi)
  have hC : endC m P n = y := list_ext (endCt_len _ _ _ _) hyn (fun j hj => by rw [endC_at hj]; exact hP.cols j hj)
  have C1 := f104_c ax n ca x w hx hxn (by omega)
  have C2 := f104_c bx m cb y w hy hyn (by omega)
  unfold valM at C1 C2
  rw [h1] at C1
  rw [h2] at C2
  have C1 := Lib.hid C1
  have C2 := Lib.hid C2
  have C3 := Lib.hid (f103_ok pa n m cp P w hp hT)
  have C4 := Lib.hid (fun W (hW : Ext w W) => f105_ok ax bx n m ca cb x y W (hx.ext hW) hxn (hy.ext hW) hyn h1 h2 hs)
  have C5 := fun W (hW : Ext w W) => f106_c pa n m cp P W (hp.ext hW) hT
  unfold RetEnds at C5
  rw [hR, hC] at C5
  have C5 := Lib.hid C5
  have C6 := Lib.hid (fun gR W (hW : Ext w W) hg => f107_yes (some ⟨gR, 0, none⟩) ax n n ca x W hg (hx.ext hW) hxn (by omega))
  have C7 := Lib.hid (fun gC W (hW : Ext w W) hg => f107_yes (some ⟨gC, 0, none⟩) bx m m cb y W hg (hy.ext hW) hyn (by omega))
  clear h1 h2 hs hT hP hR hC hx hy hxn hyn hp
  go_enter Try.func61, Try.ntmps61
  go_wp2_with fail
  refine C1.out.mono ?_
  rintro e w1 ⟨rfl, rfl⟩
  go_wp2_with fail
  refine C2.out.mono ?_
  rintro e w1 ⟨rfl, rfl⟩
  go_wp2_with fail
  refine C3.out.mono ?_
  rintro e w1 ⟨rfl, hX1⟩
  go_wp2_with fail
  refine (C4.out _ hX1).mono ?_
  rintro e w2 ⟨rfl, rfl⟩
  go_wp2_with fail
  refine (C5.out _ hX1).mono ?_
  rintro e w2 ⟨gR, gC, rfl, hIR, hIC, hX2⟩
  have HIR := Lib.hid hIR
  have HIC := Lib.hid hIC
  have hE2 := hX1.trans' hX2
  clear hIR hIC
  go_wp2_with fail
  refine (C6.out gR _ hE2 HIR.out).mono ?_
  rintro e w3 ⟨rfl, hX3⟩
  have hE3 := hE2.trans' hX3
  go_wp2_with fail
  refine (C7.out gC _ hE3 (HIC.out.ext hX3)).mono ?_
  rintro e w4 ⟨rfl, hX4⟩
  go_wp2_with fail
  go_ret
  exact ⟨rfl, hE3.trans' hX4⟩
set_option maxHeartbeats 4000000 in
theorem f60_ok (a b : Option Addr) (n m c d : Nat) (u t : Tbl) (w : World) (hu : Table w a u) (ht : Table w b t) (hU : TOk n m 0 99 u) (hT : TOk n m 0 150 t) :
    Calls Try.prog 60 #[.slice a n c, .slice b n d] w fun e w' => e = .returned (.tuple #[.int .i64 (spTo u t m n), .int .i64 0]) ∧ Ext w w' := by
  have hn1 := hU.n1
  have hn5 := hU.n5
  have hm5 := hU.m5
  have h0n : 0 < n := hn1
  have C1 := f102_c a n c u w hu hU.len (by omega) (fun j hj => by have h1 := hU.cols j (by rw [← hU.len]; exact hj); rw [row_at hj] at h1; omega)
  unfold valT at C1
  rw [tabB_of hU, show errOf true = 0 from rfl] at C1
  have C1 := Lib.hid C1
  have C2 := Lib.hid (fun W (hW : Ext w W) => f103_ok b n m d t W (ht.ext hW) hT)
  have C3 := Lib.hid (fun W (hW : Ext w W) => f99_c a b n m c d u t W (hu.ext hW) (ht.ext hW) hU ⟨hT.n1, hT.n5, hT.m1, hT.m5, hT.len, hT.cols, fun i j hi hj => by have := hT.bd i j hi hj; omega⟩)
  obtain ⟨b1, o1, a1, c1, rfl, hb1, hc1, -⟩ := hu 0 (by rw [hU.len]; omega)
  have e0 : u[0]'(by rw [hU.len]; omega) = row u 0 := (row_at _).symm
  rw [e0, hU.cols 0 (by omega)] at hc1
  simp only [Nat.add_zero] at hc1
  obtain ⟨b2, o2, a2, c2, rfl, hb2, hc2, -⟩ := ht 0 (by rw [hT.len]; omega)
  have e1 : t[0]'(by rw [hT.len]; omega) = row t 0 := (row_at _).symm
  rw [e1, hT.cols 0 (by omega)] at hc2
  simp only [Nat.add_zero] at hc2
  clear e0 e1 hu ht hU hT
  generalize spTo u t m n = S at *
  go_enter Try.func60, Try.ntmps60
  go_wp2_with fail
  refine C1.out.mono ?_
  rintro e w1 ⟨rfl, hX1⟩
  go_wp2_with fail
  refine (C2.out _ hX1).mono ?_
  rintro e w2 ⟨rfl, hX2⟩
  have hE2 := hX1.trans' hX2
  go_wp2_with fail
  refine (f101_r 0 _ _ _ [0, 0] _ (ints_new2 _ _ _ _ _ rfl) rfl (by simp) rfl).mono ?_
  rintro e w3 ⟨rfl, rfl⟩
  have hE3 := hE2.trans' (ext_alloc w2 (.cells #[.int .i64 0, .int .i64 0] 27))
  have hc1' := (hE3.cell' hb1).trans hc1
  have hc2' := (hE3.cell' hb2).trans hc2
  have hz1 := Nat.lt_of_lt_of_le hb1 hE3.size
  have hz2 := Nat.lt_of_lt_of_le hb2 hE3.size
  have hnn : ((n : Int) != (n : Int)) = false := by simp
  have hmm : ((m : Int) != (m : Int)) = false := by simp
  generalize (w2.alloc (.cells #[.int .i64 0, .int .i64 0] 27)) = w4 at *
  go_wp2_with fail
  refine wp_region_ext (by kernel_rfl) (by kernel_rfl) ?_
  repeat (go_big_quiet_step (fail))
  refine wpQuiet_nil ?_
  intro w5 hX5
  have hE5 := hE3.trans' hX5
  go_wp2_with fail
  refine (C3.out _ hE5).mono ?_
  rintro e w6 ⟨rfl, rfl⟩
  go_wp2_with fail
  go_ret2
  exact ⟨rfl, hE5⟩
end Go.Proofs.Ytfhgnmijigdlmaa.Tr
