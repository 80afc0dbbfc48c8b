/- Texts of transport, taken over from the seat of layer 6: T31. -/
import Derived.Test.YtfhgnmijigdlmaaTr4
namespace Go.Proofs.Ytfhgnmijigdlmaa.Tr
open Go.RowKit
attribute [local go_sem] GW.cell
/- Contracts of ship and price: what a plan costs, a cheapest plan, the smallest cost. -/

set_option maxHeartbeats 4000000 in
theorem f99_c (a b : Option Addr) (n m c d : Nat) (u t : Tbl) (w : World) (hu : Table w a u) (ht : Table w b t) (hU : TOk n m 0 99 u) (hT : TOk n m 0 150000 t) :
    Calls Try.prog 99 #[.slice a n c, .slice b n d] w fun e w' => e = .returned (.int .i64 (spTo u t m n)) ∧ w = w' := by
  have hn5 := hU.n5
  have hm5 := hU.m5
  have HU := Lib.hid hU
  have HT := Lib.hid hT
  have hul := hU.len
  have htl := hT.len
  clear hU hT
  go_enter Try.func99, Try.ntmps99
  go_wp2_with fail
  go_loop [5, 6, 7, 8, 9, 12, 19] (fun s _ _ _ _ i _ => ∃ k : Nat, k ≤ n ∧ i = .int .i64 k ∧ s = .int .i64 (spTo u t m k)) (fun _ _ _ _ _ i _ => n - (intOf i).toNat)
  case atStart => exact ⟨0, Nat.zero_le _, rfl, rfl⟩
  case round =>
    obtain ⟨k, hk, rfl, rfl⟩ := hrel
    by_cases hlt : k < n
    · obtain ⟨b1, o1, a1, c1, rfl, hb1, hc1, hI1⟩ := ht k (by omega)
      obtain ⟨b2, o2, a2, c2, rfl, hb2, hc2, hI2⟩ := hu k (by omega)
      have hs := spTo_bd HU.out HT.out k hk
      have hr := spRow_bd HU.out HT.out hlt
      have hcc := fun j (h : j < m) => cell_cost HU.out HT.out hlt h
      rw [← row_at (by omega)] at hc1 hc2 hI1 hI2
      rw [HT.out.cols k hlt] at hc1
      rw [HU.out.cols k hlt] at hc2
      have hl1 := HT.out.cols k hlt
      have hl2 := HU.out.cols k hlt
      have Hr := Lib.hid hr
      have Hcc := Lib.hid hcc
      have Hst := Lib.hid (show spTo u t m (k + 1) = spTo u t m k + spRow u t k m from rfl)
      have Hbd := Lib.hid (fun j (h : j < m) => And.intro (HU.out.bd k j hlt h) (HT.out.bd k j hlt h))
      generalize spTo u t m k = S at *
      clear hr hcc
      go_wp2_with fail
      go_loop [5, 8, 9, 19] (fun s _ _ i => ∃ q : Nat, q ≤ m ∧ i = .int .i64 q ∧ s = .int .i64 (S + spRow u t k q)) (fun _ _ _ i => m - (intOf i).toNat)
      case atStart => exact ⟨0, Nat.zero_le _, rfl, by simp [spRow]⟩
      case round =>
        obtain ⟨q, hq, rfl, rfl⟩ := hrel
        have hr := Hr.out q hq
        by_cases hlq : q < m
        · obtain ⟨b3, o3, rfl, hb3, hc3⟩ := hI1 q (by omega)
          obtain ⟨b4, o4, rfl, hb4, hc4⟩ := hI2 q (by omega)
          have hcq := Hcc.out q hlq
          have hbq := Hbd.out q hlq
          have Hsu := Lib.hid (show spRow u t k (q + 1) = spRow u t k q + tg t k q * tg u k q from rfl)
          rw [← gi_at] at hc3 hc4
          have e3 : gi (row t k) q = tg t k q := rfl
          have e4 : gi (row u k) q = tg u k q := rfl
          rw [e3] at hc3
          rw [e4] at hc4
          clear e3 e4
          generalize tg t k q = x at *
          generalize tg u k q = y at *
          generalize spRow u t k q = R at *
          go_wp2_with fail
          go_round
          case rel => exact ⟨q + 1, by omega, by go_num, by rw [Hsu.out, Int.add_assoc]⟩
          case measure => simp [intOf]; omega
        · obtain rfl : q = m := by omega
          go_wp2_with fail
          go_round
          case rel => exact ⟨k + 1, by omega, by go_num, by rw [Hst.out]⟩
          case measure => simp [intOf]; omega
    · obtain rfl : k = n := by omega
      go_wp2_with fail
      go_ret
      exact ⟨rfl, rfl⟩

theorem spRow_sum (c t : Tbl) (i : Nat) : ∀ m, spRow c t i m = sumN (fun j => tg c i j * tg t i j) m
  | 0 => rfl
  | m + 1 => by
    show spRow c t i m + tg t i m * tg c i m = _
    rw [spRow_sum c t i m]; simp only [sumN]; rw [Int.mul_comm (tg t i m)]
theorem spTo_sum (c t : Tbl) (m : Nat) : ∀ n, spTo c t m n = costT n m (tg c) (tg t)
  | 0 => rfl
  | n + 1 => by
    show spTo c t m n + spRow c t n m = _
    rw [spTo_sum c t m n, spRow_sum]; rfl
theorem smTo_sum (l : List Int) : ∀ k, smTo l k = sumN (gi l) k
  | 0 => rfl
  | k + 1 => by rw [smTo_succ, smTo_sum l k]; rfl
/-- a cheapest plan, with prices that prove it -/
def BestT (n m : Nat) (c : Tbl) (a b : List Int) (P : Tbl) : Prop := ShapeT n m P ∧ PartT n m (tg c) (gi a) (gi b) (tg P) ∧ PlanT n m (gi a) (gi b) (tg P)
/-- what Cheapest hands back -/
def RetPlan (n m : Nat) (c : Tbl) (a b : List Int) (w : World) (e : Ending) (w' : World) : Prop :=
  ∃ v P, e = .returned v ∧ OwnT 31 w' w.heap.size w'.heap.size v P ∧ BestT n m c a b P ∧ Ext w w'
theorem best_plan_ok {n m : Nat} {c P : Tbl} {a b : List Int} (h : BestT n m c a b P) (hn : 1 ≤ n ∧ n ≤ 5) (hm : 1 ≤ m ∧ m ≤ 5) (ha : ∀ i, i < n → gi a i ≤ 150000) : TOk n m 0 150000 P :=
  ⟨hn.1, hn.2, hm.1, hm.2, h.1.1, h.1.2, fun i j hi hj => ⟨h.2.1.pos i j hi hj, by have := h.2.1.le hi hj; have := ha i hi; omega⟩⟩
set_option maxRecDepth 20000 in
set_option maxHeartbeats 8000000 in
theorem f100_c (ax bx cx : Option Addr) (n m ca cb cc : Nat) (a b : List Int) (c : Tbl) (w : World) (ha : Ints w ax a) (hb : Ints w bx b) (hc : Table w cx c) (hal : a.length = n) (hbl : b.length = m)
    (Hc : TOk n m 0 99 c) (hsum : sumN (gi a) n = sumN (gi b) m) (hba : ∀ i, 0 ≤ gi a i ∧ gi a i ≤ 1000) (hbb : ∀ i, 0 ≤ gi b i ∧ gi b i ≤ 1000) :
    Calls Try.prog 100 #[.slice ax n ca, .slice bx m cb, .slice cx n cc] w (RetPlan n m c a b w) := by
  have hn1 := Hc.n1
  have hn5 := Hc.n5
  have hm1 := Hc.m1
  have hm5 := Hc.m5
  have C113 := Lib.hid (f120_c ax bx n ca m cb w hn1 hn5 hm1 hm5)
  have C114 := Lib.hid (fun W gP cP P B U AA CC GG OO (hE : Ext w W) hP hs hp => f121_c ax bx cx n m ca cb cc gP cP a b c P W B U AA CC GG OO (ha.ext hE) (hb.ext hE) (hc.ext hE) hal hbl hP Hc hs hp hsum hba hbb)
  have H0 : Hid (PartT n m (tg c) (gi a) (gi b) (tg (emptyT n m))) := Lib.hid (by
    rw [show tg (emptyT n m) = fun _ _ => 0 from funext fun i => funext fun j => tg_emptyT n m i j]
    exact PartT.zero (fun i j hi hj => (Hc.bd i j hi hj).1) (fun i _ => (hba i).1) (fun i _ => (hbb i).1))
  have HS := Lib.hid (emptyT_shape n m)
  clear ha hb hc hal hbl Hc hsum hba hbb
  go_enter Try.func100, Try.ntmps100
  go_wp2_with fail
  refine C113.out.mono ?_
  rintro e w1 ⟨v, rfl, ⟨AA, CC, GG, OO, hT⟩, hE1⟩
  obtain ⟨gP, cP, rfl, hgB, hgU, -⟩ := hT.top (i := 0) (by rw [HS.out.1]; omega)
  rw [HS.out.1] at hT ⊢
  have HT := Lib.hid hT
  have hne : 0 ≤ colsLeft n m (gi b) (tg (emptyT n m)) := sumN_nonneg fun j hj => by have := H0.out.cols j hj; omega
  obtain ⟨K, hK⟩ : ∃ K : Nat, colsLeft n m (gi b) (tg (emptyT n m)) ≤ K := ⟨(colsLeft n m (gi b) (tg (emptyT n m))).toNat, by omega⟩
  have HK := Lib.hid hK
  clear hne hK C113 hT
  generalize emptyT n m = P0 at *
  go_wp2_with fail
  go_loopg [8] (K + 2) (fun gk v wr => ∃ (more : Bool) (P : Tbl), v = .bool more ∧ Hid ((more = false ∧ PlanT n m (gi a) (gi b) (tg P)) ∨ (more = true ∧ colsLeft n m (gi b) (tg P) + 2 ≤ gk)) ∧ Hid (ShapeT n m P) ∧ Hid (PartT n m (tg c) (gi a) (gi b) (tg P)) ∧ Hid (OwnL 31 wr w.heap.size w1.heap.size (.slice (some ⟨gP, 0, none⟩) n cP) AA CC GG OO P) ∧ Ext w wr)
  case atStart => exact ⟨true, P0, rfl, Lib.hid (.inr ⟨rfl, by have := HK.out; omega⟩), HS, H0, HT, hE1⟩
  case round =>
    obtain ⟨more, P, rfl, HJ, HS, HP, HT, hE⟩ := hrel
    rcases HJ.out with ⟨rfl, hplan⟩ | ⟨rfl, hcl⟩
    · have HR : Hid (RetPlan n m c a b w (.returned (.slice (some ⟨gP, 0, none⟩) n cP)) wr) := Lib.hid ⟨_, P, rfl, (OwnT.up ⟨AA, CC, GG, OO, HT.out⟩ HT.out.upto (Nat.le_refl _)), ⟨HS.out, HP.out, hplan⟩, hE⟩
      clear HJ hplan
      go_wp2_with fail
      go_ret
      exact HR.out
    · have hne : 0 ≤ colsLeft n m (gi b) (tg P) := sumN_nonneg fun j hj => by have := HP.out.cols j hj; omega
      have Hcl := Lib.hid (And.intro hcl hne)
      clear HJ hcl hne
      go_wp2_with fail
      refine (C114.out wr gP cP P w.heap.size w1.heap.size AA CC GG OO hE HT.out HS.out HP.out).mono ?_
      rintro e w2 ⟨x, more, P', rfl, hT2, hB2, hN⟩
      have hE2 : Ext w w2 := Below.trans hE hB2
      have HT2 := Lib.hid hT2
      obtain ⟨g2, rfl⟩ : ∃ g2, gk = g2 + 1 := ⟨gk - 1, by have := Hcl.out; omega⟩
      have HJ2 : Hid (((more = false ∧ PlanT n m (gi a) (gi b) (tg P')) ∨ (more = true ∧ colsLeft n m (gi b) (tg P') + 2 ≤ g2)) ∧ ShapeT n m P' ∧ PartT n m (tg c) (gi a) (gi b) (tg P')) := Lib.hid (by
        rcases hN with ⟨h1, rfl, h2⟩ | ⟨h1, h2, h3, h4, h5⟩
        · exact ⟨.inl ⟨h1, h2⟩, HS.out, HP.out⟩
        · exact ⟨.inr ⟨h1, by have := Hcl.out; omega⟩, h2, h3⟩)
      clear hT2 hN HS HP HT Hcl hB2
      go_wp2_with fail
      go_roundg g2
      case measure => omega
      case rel => exact ⟨more, P', rfl, Lib.hid HJ2.out.1, Lib.hid HJ2.out.2.1, Lib.hid HJ2.out.2.2, HT2, hE2⟩
/-- what masses and costs that fit give -/
structure FitsOk (n m : Nat) (x y : List Int) (t : Tbl) : Prop where
  xl : x.length = n
  yl : y.length = m
  T : TOk n m 0 99 t
  sum : sumN (gi x) n = sumN (gi y) m
  bx : ∀ i, 0 ≤ gi x i ∧ gi x i ≤ 30
  bY : ∀ i, 0 ≤ gi y i ∧ gi y i ≤ 30
theorem fits_ok {x y : List Int} {t : Tbl} (h : fitsErr x y t = 0) : FitsOk x.length y.length x y t := by
  obtain ⟨h1, h2, h3, h4, h5, h6⟩ := fitsErr_ok h
  have bd : ∀ {l : List Int}, massB l = true → ∀ i, 0 ≤ gi l i ∧ gi l i ≤ 30 := fun {l} hl i => by
    by_cases hi : i < l.length
    · exact (massB_ok hl).2.2 i hi
    · rw [gi_out hi]; omega
  have hT := tabB_ok h3
  rw [h4, h5] at hT
  refine ⟨rfl, rfl, hT, ?_, bd h1, bd h2⟩
  unfold sm at h6
  rw [smTo_sum, smTo_sum] at h6
  exact h6
/-- what price.Least says -/
def LeastP (x y : List Int) (t : Tbl) (v : Int) : Prop := (fitsErr x y t ≠ 0 → v = 0) ∧ (fitsErr x y t = 0 → ∃ P, BestT x.length y.length t x y P ∧ v = costT x.length y.length (tg t) (tg P))
def RetLeast (x y : List Int) (t : Tbl) (w : World) (e : Ending) (w' : World) : Prop := ∃ v, e = .returned (.tuple #[.int .i64 v, .int .i64 (fitsErr x y t)]) ∧ LeastP x y t v ∧ Ext w w'
set_option maxRecDepth 20000 in
set_option maxHeartbeats 8000000 in
theorem f58_c (ax bx a : Option Addr) (na nb n c ca cb : Nat) (x y : List Int) (t : Tbl) (w : World) (hx : Ints w ax x) (hxn : x.length = na) (hxl : na ≤ 1000000) (hy : Ints w bx y) (hyn : y.length = nb) (hyl : nb ≤ 1000000) (hl : Table w a t) (hn : t.length = n) (hlen : n ≤ 1000000) (hin : ∀ j, (hj : j < t.length) → t[j].length ≤ 1000000) :
    Calls Try.prog 58 #[.slice ax na ca, .slice bx nb cb, .slice a n c] w (RetLeast x y t w) := by
  have C1 := f98_c ax bx a na nb n c ca cb x y t w hx hxn hxl hy hyn hyl hl hn hlen hin
  unfold RetLeast
  subst hxn hyn hn
  by_cases h0 : fitsErr x y t = 0
  case neg =>
    have HL : Hid (LeastP x y t 0) := Lib.hid ⟨fun _ => rfl, fun h => absurd h h0⟩
    have d1 : (fitsErr x y t != 0) = true := by simp [h0]
    have C1 := Lib.hid C1
    clear h0 hx hy hl hin hxl hyl hlen
    generalize fitsErr x y t = E at *
    go_enter Try.func58, Try.ntmps58
    go_wp2_with fail
    refine C1.out.mono ?_
    rintro e w1 ⟨rfl, hE1⟩
    go_wp2_with fail
    go_ret2
    exact ⟨0, rfl, HL.out, hE1⟩
  have HF := Lib.hid (fits_ok h0)
  have H0 := Lib.hid h0
  rw [h0] at C1 ⊢
  have hF := fits_ok h0
  have htl : t.length = x.length := hF.T.len
  have C1 := Lib.hid C1
  have C83 : ∀ W, Ext w W → Calls Try.prog 100 #[.slice ax x.length ca, .slice bx y.length cb, .slice a t.length c] W (RetPlan x.length y.length t x y W) := fun W hE => by
    rw [htl]
    exact f100_c ax bx a x.length y.length ca cb c x y t W (hx.ext hE) (hy.ext hE) (hl.ext hE) rfl rfl hF.T hF.sum (fun i => by have := hF.bx i; omega) (fun i => by have := hF.bY i; omega)
  have C83 := Lib.hid C83
  have Htl := Lib.hid htl
  clear h0 hF htl hx hy hin hxl hyl hlen
  go_enter Try.func58, Try.ntmps58
  go_wp2_with fail
  refine C1.out.mono ?_
  rintro e w1 ⟨rfl, hE1⟩
  go_wp2_with fail
  refine (C83.out w1 hE1).mono ?_
  rintro e w2 ⟨v, P, rfl, hT, hB, hX2⟩
  have hE2 := hE1.trans' hX2
  obtain ⟨pa, pc, rfl, hP⟩ := hT.table
  have hpl := hB.1.1
  have hTP := best_plan_ok hB ⟨HF.out.T.n1, HF.out.T.n5⟩ ⟨HF.out.T.m1, HF.out.T.m5⟩ (fun i _ => by have := HF.out.bx i; omega)
  have C82 := f99_c a pa x.length y.length c pc t P w2 (hl.ext hE2) hP HF.out.T hTP
  rw [show Value.slice a x.length c = .slice a t.length c by rw [Htl.out]] at C82
  have C82 := Lib.hid C82
  have HL : Hid (LeastP x y t (spTo t P y.length x.length)) := Lib.hid ⟨fun h => absurd H0.out h, fun _ => ⟨P, hB, spTo_sum t P _ _⟩⟩
  rw [hpl]
  clear hT hB hP hpl hTP
  generalize spTo t P y.length x.length = sv at *
  go_wp2_with fail
  refine C82.out.mono ?_
  rintro e w3 ⟨rfl, rfl⟩
  go_wp2_with fail
  go_ret2
  exact ⟨sv, rfl, HL.out, hE2⟩

end Go.Proofs.Ytfhgnmijigdlmaa.Tr
