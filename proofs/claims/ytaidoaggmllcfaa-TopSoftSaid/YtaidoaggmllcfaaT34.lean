/- Contracts of soft: what a whole table costs more than the least, or than prices are worth. -/
import Derived.Test.YtaidoaggmllcfaaT33
import Derived.Test.YtaidoaggmllcfaaT26
namespace Go.Proofs.Ytaidoaggmllcfaa
open Go.RowKit
attribute [local go_sem] GW.cell

/-- a table in grains with the rows and columns of masses -/
structure WholeT (n m : Nat) (x y : List Int) (T : Tbl) : Prop where
  ok : TOk n m 0 150000 T
  rows : ∀ i, i < n → lr x T i = 0
  cols : ∀ j, j < m → lc y T j = 0
theorem csTo_sum (t : Tbl) (j : Nat) : ∀ k, csTo t j k = sumN (fun i => tg t i j) k
  | 0 => rfl
  | k + 1 => by
    show csTo t j k + tg t k j = _
    rw [csTo_sum t j k]; rfl
theorem WholeT.plan {n m : Nat} {x y : List Int} {T : Tbl} (h : WholeT n m x y T) : PlanT n m (fun i => gi x i * 1000) (fun j => gi y j * 1000) (tg T) := by
  refine ⟨fun i j hi hj => (h.ok.bd i j hi hj).1, fun i hi => ?_, fun j hj => ?_⟩
  · have h1 := h.rows i hi
    unfold lr sm at h1
    rw [smTo_sum, h.ok.cols i hi] at h1
    show sumN (gi (row T i)) m = _
    omega
  · have h1 := h.cols j hj
    unfold lc cs at h1
    rw [csTo_sum, h.ok.len] at h1
    omega
theorem WholeT.of {n m : Nat} {x y : List Int} {T : Tbl} (h : TOk n m 0 150000 T) (h2 : PlanT n m (fun i => gi x i * 1000) (fun j => gi y j * 1000) (tg T)) : WholeT n m x y T := by
  refine ⟨h, fun i hi => ?_, fun j hj => ?_⟩
  · unfold lr sm
    rw [smTo_sum, h.cols i hi]
    have := h2.rows i hi
    have e : sumN (tg T i) m = sumN (gi (row T i)) m := rfl
    omega
  · unfold lc cs
    rw [csTo_sum, h.len]
    have := h2.cols j hj
    omega
theorem worth_scale (n m : Nat) (a b u v : Nat → Int) : worthT n m (fun i => a i * 1000) (fun j => b j * 1000) u v = worthT n m a b u v * 1000 := by
  unfold worthT
  rw [sumN_congr (g := fun i => (a i * u i) * 1000) (fun i _ => by grind), sumN_congr (f := fun j => b j * 1000 * v j) (g := fun j => (b j * v j) * 1000) (fun i _ => by grind), sumN_dist, sumN_dist, Int.add_mul]
/-- prices that hold are worth no more than a whole table costs -/
theorem whole_ge {n m : Nat} {x y : List Int} {c T : Tbl} {u v : Nat → Int} (h : WholeT n m x y T) (hp : ∀ i j, i < n → j < m → u i + v j ≤ tg c i j) : worthT n m (gi x) (gi y) u v * 1000 ≤ costT n m (tg c) (tg T) := by
  have := worth_le h.plan hp
  rwa [worth_scale] at this
/-- the smallest cost is one number -/
theorem best_same {n m : Nat} {c P Q : Tbl} {a b : List Int} (h : BestT n m c a b P) (h2 : BestT n m c a b Q) : costT n m (tg c) (tg P) = costT n m (tg c) (tg Q) := by
  have key : ∀ {P Q : Tbl}, BestT n m c a b P → BestT n m c a b Q → costT n m (tg c) (tg P) ≤ costT n m (tg c) (tg Q) := fun {P Q} h h2 => by
    obtain ⟨u, v, hp⟩ := h.2.1.pot
    rw [← worth_eq h.2.2 (fun i j hi hj => (hp i j hi hj).2)]
    exact worth_le h2.2.2 (fun i j hi hj => (hp i j hi hj).1)
  exact Int.le_antisymm (key h h2) (key h2 h)
theorem best_worth {n m : Nat} {c P : Tbl} {a b : List Int} {u v : Nat → Int} (h : BestT n m c a b P) (hp : PotT n m (tg c) (tg P) u v) : worthT n m (gi a) (gi b) u v = costT n m (tg c) (tg P) := worth_eq h.2.2 (fun i j hi hj => (hp i j hi hj).2)
/-- a fraction of 1000 in lowest terms -/
theorem frac_facts {d : Int} (hd : 0 ≤ d) : ∃ g N D : Int, ratN d 1000 = N ∧ ratD d 1000 = D ∧ d = g * N ∧ 1000 = g * D ∧ 1 ≤ g ∧ 1 ≤ D ∧ D ≤ 1000 ∧ 0 ≤ N ∧ N ≤ d ∧ gcdI N D = 1 := by
  have hp := gcdI_pos (n := d) (d := 1000) (by omega)
  have h1 : gcdI d 1000 ∣ d := Int.gcd_dvd_left d 1000
  have h2 : gcdI d 1000 ∣ 1000 := Int.gcd_dvd_right d 1000
  obtain ⟨N, hN⟩ := h1
  obtain ⟨D, hD⟩ := h2
  have e1 : d / gcdI d 1000 = N := Int.ediv_eq_of_eq_mul_right (by omega) hN
  have e2 : 1000 / gcdI d 1000 = D := Int.ediv_eq_of_eq_mul_right (by omega) hD
  refine ⟨gcdI d 1000, N, D, e1, e2, hN, hD, hp, ?_, ?_, ?_, ?_, ?_⟩
  · rw [← e2]
    have := Int.le_ediv_of_mul_le (a := 1) (b := 1000) (c := gcdI d 1000) (by omega) (by
      have := Int.le_of_dvd (show (0 : Int) < 1000 by omega) (Int.gcd_dvd_right d 1000)
      have e : gcdI d 1000 = (Int.gcd d 1000 : Int) := rfl
      omega)
    exact this
  · rw [← e2]; exact Int.ediv_le_self _ (by omega)
  · rw [← e1]; exact Int.ediv_nonneg hd (by omega)
  · rw [← e1]; exact Int.ediv_le_self _ hd
  · have h3 : Int.gcd d 1000 = (gcdI d 1000).natAbs * Int.gcd N D := by
      rw [← Int.gcd_mul_left, ← hN, ← hD]
    have h4 : (gcdI d 1000).natAbs = Int.gcd d 1000 := rfl
    rw [h4] at h3
    have h5 : 0 < Int.gcd d 1000 := by have e : gcdI d 1000 = (Int.gcd d 1000 : Int) := rfl; omega
    have h6 : Int.gcd N D = 1 := Nat.eq_of_mul_eq_mul_left h5 (by rw [← h3, Nat.mul_one])
    unfold gcdI
    rw [h6]; rfl
def validJ (r : Rat) : Bool := withinB r.den 1 1000000 && (withinB r.num 0 1000000000000 && (gcdI r.num r.den == 1))
set_option maxHeartbeats 2000000 in
theorem f88_j (r : Rat) (w : World) :
    Calls Try.prog 88 #[.agg #[.int .i64 r.num, .int .i64 r.den], .int .i64 1000000000000, .int .i64 1000000] w fun e w' => e = .returned (.bool (validJ r)) ∧ Ext w w' := by
  obtain ⟨n, d⟩ := r
  simp only
  have HB := Lib.hid (BlkC.new w #[.int .i64 n, .int .i64 d] 46)
  have hE0 := ext_alloc w (.cells #[.int .i64 n, .int .i64 d] 46)
  have hc0 := HB.out.cellv 0 (v := .int .i64 n) rfl
  have hc1 := HB.out.cellv 1 (v := .int .i64 d) rfl
  have C1 := Lib.hid (fun W => f62_c d 1 1000000 W)
  have C2 := Lib.hid (fun W => f62_c n 0 1000000000000 W)
  cases h1 : withinB d 1 1000000
  · rw [show validJ ⟨n, d⟩ = false by simp [validJ, h1]]
    rw [h1] at C1
    clear h1
    go_enter Try.func88, Try.ntmps88
    go_wp2_with fail
    generalize w.alloc (.cells #[.int .i64 n, .int .i64 d] 46) = w0 at *
    go_wp2_with fail
    refine (C1.out _).mono ?_
    rintro e w' ⟨rfl, rfl⟩
    go_wp2_with fail
    go_ret
    exact ⟨rfl, hE0⟩
  cases h2 : withinB n 0 1000000000000
  · rw [show validJ ⟨n, d⟩ = false by simp [validJ, h2]]
    rw [h1] at C1
    rw [h2] at C2
    clear h1 h2
    go_enter Try.func88, Try.ntmps88
    go_wp2_with fail
    generalize w.alloc (.cells #[.int .i64 n, .int .i64 d] 46) = w0 at *
    go_wp2_with fail
    refine (C1.out _).mono ?_
    rintro e w' ⟨rfl, rfl⟩
    go_wp2_with fail
    refine (C2.out _).mono ?_
    rintro e w' ⟨rfl, rfl⟩
    go_wp2_with fail
    go_ret
    exact ⟨rfl, hE0⟩
  have b1 := withinB_iff.1 h1
  have b2 := withinB_iff.1 h2
  have C3 := Lib.hid (fun W => f108_c n d W (by omega) (by omega))
  rw [show validJ ⟨n, d⟩ = (gcdI n d == 1) by simp [validJ, h1, h2]]
  rw [h1] at C1
  rw [h2] at C2
  clear h1 h2
  generalize gcdI n d = g at *
  go_enter Try.func88, Try.ntmps88
  go_wp2_with fail
  generalize w.alloc (.cells #[.int .i64 n, .int .i64 d] 46) = w0 at *
  go_wp2_with fail
  refine (C1.out _).mono ?_
  rintro e w' ⟨rfl, rfl⟩
  go_wp2_with fail
  refine (C2.out _).mono ?_
  rintro e w' ⟨rfl, rfl⟩
  go_wp2_with fail
  refine (C3.out _).mono ?_
  rintro e w1 ⟨rfl, hE1⟩
  go_wp2_with fail
  go_ret
  exact ⟨rfl, hE0.trans' hE1⟩

set_option maxHeartbeats 4000000 in
theorem f85_c (ax bx a q : Option Addr) (ca cb c d : Nat) (x y : List Int) (t T : Tbl) (w : World) (hx : Ints w ax x) (hy : Ints w bx y) (hl : Table w a t) (h0 : fitsErr x y t = 0) (hq : Table w q T) (hT : WholeT x.length y.length x y T) :
    Calls Try.prog 85 #[.slice ax x.length ca, .slice bx y.length cb, .slice a x.length c, .slice q x.length d] w (RetN 0 w) := by
  have hF := fits_ok h0
  have htl : t.length = x.length := hF.T.len
  have hTl : T.length = x.length := hT.ok.len
  have C1 : Calls Try.prog 80 #[.slice ax x.length ca, .slice bx y.length cb, .slice a x.length c] w fun e w' => e = .returned (.int .i64 0) ∧ Ext w w' := by
    have := f80_c ax bx a x.length y.length x.length c ca cb x y t w hx rfl (by have := hF.T.n5; omega) hy rfl (by have := hF.T.m5; omega) hl htl (by have := hF.T.n5; omega) (fun j hj => by have h1 := hF.T.cols j (by omega); rw [row_at hj] at h1; have := hF.T.m5; omega)
    rw [h0] at this; exact this
  have C2 := fun W (h : Ext w W) => f63_c q x.length d T x.length y.length 150000 W (hq.ext h) hTl (by have := hF.T.n5; omega) (fun j hj => by have h1 := hT.ok.cols j (by omega); rw [row_at hj] at h1; have := hF.T.m5; omega)
  rw [sized_of hT.ok] at C2
  have C3 := fun W (h : Ext w W) => f92_c ax bx q x.length y.length d ca cb x y T W (hx.ext h) rfl (fun j _ => hF.bx j) (hy.ext h) rfl (fun j _ => hF.bY j) (hq.ext h) (hT.ok.weak (by omega))
  rw [lacks_none hT.rows hT.cols] at C3
  have C1 := Lib.hid C1
  have C2 := Lib.hid C2
  have C3 := Lib.hid C3
  clear hF htl hTl h0 hT hx hy hl hq
  go_enter Try.func85, Try.ntmps85
  go_wp2_with fail
  refine C1.out.mono ?_
  rintro e w1 ⟨rfl, hE1⟩
  go_wp2_with fail
  refine (C2.out w1 hE1).mono ?_
  rintro e w2 ⟨rfl, hX2⟩
  have hE2 := hE1.trans' hX2
  go_wp2_with fail
  refine (C3.out w2 hE2).mono ?_
  rintro e w3 ⟨rfl, hX3⟩
  go_wp2_with fail
  go_ret
  exact ⟨rfl, hE2.trans' hX3⟩
/-- what a call hands back that makes a fraction and an error -/
def RetFr (d : Int) (w : World) (e : Ending) (w' : World) : Prop := e = .returned (.tuple #[fracV d 1000, .int .i64 0]) ∧ Ext w w'
set_option maxHeartbeats 4000000 in
theorem f86_c (a q : Option Addr) (n m c d : Nat) (t T : Tbl) (v : Int) (w : World) (hl : Table w a t) (hq : Table w q T) (hc : TOk n m 0 99 t) (hT : TOk n m 0 150000 T) (hv : -1000000 ≤ v ∧ v ≤ 1000000) (hd : 0 ≤ spTo t T m n - v * 1000) :
    Calls Try.prog 86 #[.slice a n c, .slice q n d, .int .i64 v] w fun e w' => e = .returned (fracV (spTo t T m n - v * 1000) 1000) ∧ Ext w w' := by
  have hb := spTo_bd hc hT n (Nat.le_refl _)
  have hn5 := hc.n5
  have C1 := fun W (h : Ext w W) => f84_c a q n m c d t T W (hl.ext h) (hq.ext h) hc hT
  generalize spTo t T m n = s at *
  have hs : 0 ≤ s ∧ s ≤ 371250000 := by omega
  have C2 := Lib.hid (fun W => f76_c (s - v * 1000) 1000 W ⟨hd, by omega⟩ (by omega))
  have C1 := Lib.hid C1
  unfold fracV at C2 ⊢
  have HB := Lib.hid (BlkC.new w #[.int .i64 0, .int .i64 0] 46)
  have hE0 := ext_alloc w (.cells #[.int .i64 0, .int .i64 0] 46)
  have hz := HB.out.lt
  clear hb hc hT hl hq
  generalize ratN (s - v * 1000) 1000 = N at *
  generalize ratD (s - v * 1000) 1000 = D at *
  go_enter Try.func86, Try.ntmps86
  go_wp2_with fail
  generalize w.alloc (.cells #[.int .i64 0, .int .i64 0] 46) = w0 at *
  refine (C1.out w0 hE0).mono ?_
  rintro e w1 ⟨rfl, rfl⟩
  go_wp2_with fail
  refine (C2.out _).mono ?_
  rintro e w2 ⟨rfl, hX2⟩
  have hE2 := hE0.trans' hX2
  have g0 := (HB.out.ext hX2).cellv 0 (v := .int .i64 0) rfl
  have g1 := (HB.out.ext hX2).cellv 1 (v := .int .i64 0) rfl
  have gf := (HB.out.ext hX2).frozen
  have hz2 := (HB.out.ext hX2).lt
  go_wp2_with fail
  refine bodyPost_ret (v := .agg #[.int .i64 N, .int .i64 D]) (by simp [results, Try.results86, go_sem, g0, g1]) rfl ⟨rfl, ?_⟩
  exact ext_set2' hE2 (Nat.le_refl _) _ _ _ _
set_option maxHeartbeats 8000000 in
theorem f36_c (ax bx a q : Option Addr) (ca cb c d : Nat) (x y : List Int) (t T : Tbl) (L : Int) (w : World) (hx : Ints w ax x) (hy : Ints w bx y) (hl : Table w a t) (h0 : fitsErr x y t = 0) (hq : Table w q T) (hT : WholeT x.length y.length x y T) (hL : ∀ v, LeastP x y t v → v = L) (hLb : -1000000 ≤ L ∧ L ≤ 1000000) (hd : 0 ≤ spTo t T y.length x.length - L * 1000) :
    Calls Try.prog 36 #[.slice ax x.length ca, .slice bx y.length cb, .slice a x.length c, .slice q x.length d] w (RetFr (spTo t T y.length x.length - L * 1000) w) := by
  have hF := fits_ok h0
  have htl : t.length = x.length := hF.T.len
  have hE0 := ext_alloc w (.cells #[.int .i64 0, .int .i64 0] 46)
  have HB := Lib.hid (BlkC.new w #[.int .i64 0, .int .i64 0] 46)
  have C1 := Lib.hid (fun W (h : Ext w W) => f85_c ax bx a q ca cb c d x y t T W (hx.ext h) (hy.ext h) (hl.ext h) h0 (hq.ext h) hT)
  have C2 : ∀ W, Ext w W → Calls Try.prog 34 #[.slice ax x.length ca, .slice bx y.length cb, .slice a x.length c] W fun e w' => e = .returned (.tuple #[.int .i64 L, .int .i64 0]) ∧ Ext W w' := fun W h => by
    have := f34_c ax bx a x.length y.length x.length c ca cb x y t W (hx.ext h) rfl (by have := hF.T.n5; omega) (hy.ext h) rfl (by have := hF.T.m5; omega) (hl.ext h) htl (by have := hF.T.n5; omega) (fun j hj => by have h1 := hF.T.cols j (by omega); rw [row_at hj] at h1; have := hF.T.m5; omega)
    refine this.mono ?_
    rintro e w' ⟨v, rfl, hv, hE⟩
    exact ⟨by rw [h0, hL v hv], hE⟩
  have C2 := Lib.hid C2
  have C3 := Lib.hid (fun W (h : Ext w W) => f86_c a q x.length y.length c d t T L W (hl.ext h) (hq.ext h) hF.T hT.ok hLb hd)
  unfold RetFr
  unfold fracV at C3 ⊢
  have hz := HB.out.lt
  clear hF htl h0 hx hy hl hq hT hL hLb hd
  generalize ratN (spTo t T y.length x.length - L * 1000) 1000 = N at *
  generalize ratD (spTo t T y.length x.length - L * 1000) 1000 = D at *
  go_enter Try.func36, Try.ntmps36
  go_wp2_with fail
  generalize w.alloc (.cells #[.int .i64 0, .int .i64 0] 46) = w0 at *
  refine (C1.out w0 hE0).mono ?_
  rintro e w1 ⟨rfl, hX1⟩
  have hE1 := hE0.trans' hX1
  have hz1 := (HB.out.ext hX1).lt
  go_wp2_with fail
  refine (C2.out w1 hE1).mono ?_
  rintro e w2 ⟨rfl, hX2⟩
  have hX2 := hX1.trans' hX2
  have hE2 := hE0.trans' hX2
  have hz2 := (HB.out.ext hX2).lt
  go_wp2_with fail
  refine (C3.out w2 hE2).mono ?_
  rintro e w3 ⟨rfl, hX3⟩
  have hX3 := hX2.trans' hX3
  have hE3 := hE0.trans' hX3
  have g0 := (HB.out.ext hX3).cellv 0 (v := .int .i64 0) rfl
  have g1 := (HB.out.ext hX3).cellv 1 (v := .int .i64 0) rfl
  have gf := (HB.out.ext hX3).frozen
  have hz3 := (HB.out.ext hX3).lt
  go_wp2_with fail
  refine bodyPost_ret (v := .tuple #[.agg #[.int .i64 N, .int .i64 D], .int .i64 0]) (by simp [results, Try.results36, go_sem, g0, g1]) rfl ⟨rfl, ?_⟩
  exact ext_set2' hE3 (Nat.le_refl _) _ _ _ _
/-- what soft.Bound hands back -/
def RetBd (x y : List Int) (t T : Tbl) (U V : List Int) (w : World) (e : Ending) (w' : World) : Prop :=
  (prcErr t U V ≠ 0 ∧ e = .returned (.tuple #[.agg #[.int .i64 0, .int .i64 0], .int .i64 (prcErr t U V)]) ∨ prcErr t U V = 0 ∧ e = .returned (.tuple #[fracV (spTo t T y.length x.length - worV x y t U V * 1000) 1000, .int .i64 0])) ∧ Ext w w'
set_option maxRecDepth 20000 in
set_option maxHeartbeats 8000000 in
theorem f39_c (ax bx a q ua va : Option Addr) (ca cb c d un uc vn vc : Nat) (x y : List Int) (t T : Tbl) (U V : List Int) (w : World) (hx : Ints w ax x) (hy : Ints w bx y) (hl : Table w a t) (h0 : fitsErr x y t = 0) (hq : Table w q T) (hT : WholeT x.length y.length x y T)
    (hU : Ints w ua U) (hun : U.length = un) (hul : un ≤ 1000000) (hV : Ints w va V) (hvn : V.length = vn) (hvl : vn ≤ 1000000) (hb : prcErr t U V = 0 → (-1000000 ≤ worV x y t U V ∧ worV x y t U V ≤ 1000000) ∧ 0 ≤ spTo t T y.length x.length - worV x y t U V * 1000) :
    Calls Try.prog 39 #[.slice ax x.length ca, .slice bx y.length cb, .slice a x.length c, .slice q x.length d, .agg #[.slice ua un uc, .slice va vn vc]] w (RetBd x y t T U V w) := by
  have hF := fits_ok h0
  have htl : t.length = x.length := hF.T.len
  have hE00 := ext_alloc w (.cells #[.slice ua un uc, .slice va vn vc] 55)
  have hE0 := hE00.trans' (ext_alloc (w.alloc (.cells #[.slice ua un uc, .slice va vn vc] 55)) (.cells #[.int .i64 0, .int .i64 0] 46))
  have HA := Lib.hid ((BlkC.new w #[.slice ua un uc, .slice va vn vc] 55).alloc (.cells #[.int .i64 0, .int .i64 0] 46))
  have HB0 := BlkC.new (w.alloc (.cells #[.slice ua un uc, .slice va vn vc] 55)) #[.int .i64 0, .int .i64 0] 46
  simp only [World.size_alloc] at HB0
  have HB := Lib.hid HB0
  have C1 := Lib.hid (fun W (h : Ext w W) => f85_c ax bx a q ca cb c d x y t T W (hx.ext h) (hy.ext h) (hl.ext h) h0 (hq.ext h) hT)
  have C2 := fun W (h : Ext w W) => f40_c ax bx a ua va x.length c ca cb un uc vn vc x y t U V W (hx.ext h) (hy.ext h) (hl.ext h) htl h0 (hU.ext h) hun hul (hV.ext h) hvn hvl
  unfold RetIE2 at C2
  have g0 := HA.out.cellv 0 (v := .slice ua un uc) rfl
  have g1 := HA.out.cellv 1 (v := .slice va vn vc) rfl
  have hz := HB.out.lt
  clear HB0
  by_cases hp : prcErr t U V = 0
  case neg =>
    have HR : Hid (∀ W, Ext w W → RetBd x y t T U V w (.returned (.tuple #[.agg #[.int .i64 0, .int .i64 0], .int .i64 (prcErr t U V)])) W) := Lib.hid (fun W h => ⟨.inl ⟨hp, rfl⟩, h⟩)
    have d1 : (prcErr t U V != 0) = true := by simp [hp]
    have C2 := Lib.hid C2
    clear hF htl h0 hx hy hl hq hT hb hp hU hV hun hvn
    generalize prcErr t U V = E at *
    generalize worV x y t U V = WV at *
    go_enter Try.func39, Try.ntmps39
    go_wp2_with fail
    generalize (w.alloc (.cells #[.slice ua un uc, .slice va vn vc] 55)).alloc (.cells #[.int .i64 0, .int .i64 0] 46) = w0 at *
    refine (C1.out w0 hE0).mono ?_
    rintro e w1 ⟨rfl, hX1⟩
    have hE1 := hE0.trans' hX1
    have hz1 := (HB.out.ext hX1).lt
    have g0 := (HA.out.ext hX1).cellv 0 (v := .slice ua un uc) rfl
    have g1 := (HA.out.ext hX1).cellv 1 (v := .slice va vn vc) rfl
    go_wp2_with fail
    refine (C2.out w1 hE1).mono ?_
    rintro e w2 ⟨rfl, hX2⟩
    have hX2 := hX1.trans' hX2
    have hE2 := hE0.trans' hX2
    have k0 := (HB.out.ext hX2).cellv 0 (v := .int .i64 0) rfl
    have k1 := (HB.out.ext hX2).cellv 1 (v := .int .i64 0) rfl
    have gf := (HB.out.ext hX2).frozen
    have hz2 := (HB.out.ext hX2).lt
    go_wp2_with fail
    refine bodyPost_ret (v := .tuple #[.agg #[.int .i64 0, .int .i64 0], .int .i64 E]) (by simp [results, Try.results39, go_sem, k0, k1]) rfl (HR.out _ ?_)
    exact ext_set2' hE2 (Nat.le_succ _) _ _ _ _
  obtain ⟨hwb, hd⟩ := hb hp
  have C3 := Lib.hid (fun W (h : Ext w W) => f86_c a q x.length y.length c d t T (worV x y t U V) W (hl.ext h) (hq.ext h) hF.T hT.ok hwb hd)
  have HR : Hid (∀ W, Ext w W → RetBd x y t T U V w (.returned (.tuple #[fracV (spTo t T y.length x.length - worV x y t U V * 1000) 1000, .int .i64 0])) W) := Lib.hid (fun W h => ⟨.inr ⟨hp, rfl⟩, h⟩)
  rw [hp] at C2
  have C2 := Lib.hid C2
  unfold fracV at C3 HR
  clear hF htl h0 hx hy hl hq hT hb hp hU hV hun hvn hwb hd
  generalize ratN (spTo t T y.length x.length - worV x y t U V * 1000) 1000 = N at *
  generalize ratD (spTo t T y.length x.length - worV x y t U V * 1000) 1000 = D at *
  generalize worV x y t U V = WV at *
  go_enter Try.func39, Try.ntmps39
  go_wp2_with fail
  generalize (w.alloc (.cells #[.slice ua un uc, .slice va vn vc] 55)).alloc (.cells #[.int .i64 0, .int .i64 0] 46) = w0 at *
  refine (C1.out w0 hE0).mono ?_
  rintro e w1 ⟨rfl, hX1⟩
  have hE1 := hE0.trans' hX1
  have hz1 := (HB.out.ext hX1).lt
  have g0 := (HA.out.ext hX1).cellv 0 (v := .slice ua un uc) rfl
  have g1 := (HA.out.ext hX1).cellv 1 (v := .slice va vn vc) rfl
  go_wp2_with fail
  refine (C2.out w1 hE1).mono ?_
  rintro e w2 ⟨rfl, hX2⟩
  have hX2 := hX1.trans' hX2
  have hE2 := hE0.trans' hX2
  have hz2 := (HB.out.ext hX2).lt
  go_wp2_with fail
  refine (C3.out w2 hE2).mono ?_
  rintro e w3 ⟨rfl, hX3⟩
  have hX3 := hX2.trans' hX3
  have hE3 := hE0.trans' hX3
  have k0 := (HB.out.ext hX3).cellv 0 (v := .int .i64 0) rfl
  have k1 := (HB.out.ext hX3).cellv 1 (v := .int .i64 0) rfl
  have gf := (HB.out.ext hX3).frozen
  have hz3 := (HB.out.ext hX3).lt
  go_wp2_with fail
  refine bodyPost_ret (v := .tuple #[.agg #[.int .i64 N, .int .i64 D], .int .i64 0]) (by simp [results, Try.results39, go_sem, k0, k1]) rfl (HR.out _ ?_)
  exact ext_set2' hE3 (Nat.le_succ _) _ _ _ _
set_option maxRecDepth 20000 in
set_option maxHeartbeats 8000000 in
theorem f37_c (ax bx a q : Option Addr) (ca cb c d : Nat) (x y : List Int) (t T : Tbl) (w : World) (hx : Ints w ax x) (hy : Ints w bx y) (hl : Table w a t) (h0 : fitsErr x y t = 0) (hq : Table w q T) (hT : WholeT x.length y.length x y T) :
    Calls Try.prog 37 #[.slice ax x.length ca, .slice bx y.length cb, .slice a x.length c, .slice q x.length d] w (RetPrices x y t w) := by
  have htl : t.length = x.length := (fits_ok h0).T.len
  have hE0 := ext_alloc w (.cells #[.slice none 0 0, .slice none 0 0] 55)
  have HB := Lib.hid (BlkC.new w #[.slice none 0 0, .slice none 0 0] 55)
  have C1 := Lib.hid (fun W (h : Ext w W) => f85_c ax bx a q ca cb c d x y t T W (hx.ext h) (hy.ext h) (hl.ext h) h0 (hq.ext h) hT)
  have C2 := Lib.hid (fun W (h : Ext w W) => f87_c ax bx a x.length c ca cb x y t W (hx.ext h) (hy.ext h) (hl.ext h) htl h0)
  have hz := HB.out.lt
  clear htl h0 hx hy hl hq hT
  go_enter Try.func37, Try.ntmps37
  go_wp2_with fail
  generalize w.alloc (.cells #[.slice none 0 0, .slice none 0 0] 55) = w0 at *
  refine (C1.out w0 hE0).mono ?_
  rintro e w1 ⟨rfl, hX1⟩
  have hE1 := hE0.trans' hX1
  have hz1 := (HB.out.ext hX1).lt
  go_wp2_with fail
  refine (C2.out w1 hE1).mono ?_
  rintro e w2 ⟨gA, c1, gB, d1, U, V, rfl, hgA, hgB, hU, hV, hP, hX2⟩
  have hX2 := hX1.trans' hX2
  have hE2 := hE0.trans' hX2
  have g0 := (HB.out.ext hX2).cellv 0 (v := .slice none 0 0) rfl
  have g1 := (HB.out.ext hX2).cellv 1 (v := .slice none 0 0) rfl
  have gf := (HB.out.ext hX2).frozen
  have hz2 := (HB.out.ext hX2).lt
  have key : ∀ {g : Nat} {l : List Int} (u v : Value), Ints w2 (some ⟨g, 0, none⟩) l → g ≠ w.heap.size → Ints ((w2.setCell ⟨w.heap.size, 0, none⟩ u).setCell ⟨w.heap.size, 1, none⟩ v) (some ⟨g, 0, none⟩) l := fun u v h hne j hj => by
    obtain ⟨b, off, ha, hb, hc⟩ := h j hj
    injection ha with ha
    injection ha with ha1 ha2
    subst ha1
    refine ⟨_, off, by rw [ha2], by simpa using hb, ?_⟩
    rw [World.cell?_setCell_other _ _ _ _ (fun e => hne (by injection e with e1 _; first | exact e1 | exact e1.symm)), World.cell?_setCell_other _ _ _ _ (fun e => hne (by injection e with e1 _; first | exact e1 | exact e1.symm))]
    exact hc
  have hU2 := key (.slice (some ⟨gA, 0, none⟩) x.length c1) (.slice (some ⟨gB, 0, none⟩) y.length d1) hU (by omega)
  have hV2 := key (.slice (some ⟨gA, 0, none⟩) x.length c1) (.slice (some ⟨gB, 0, none⟩) y.length d1) hV (by omega)
  have HR : Hid (RetPrices x y t w (.returned (.tuple #[.agg #[.slice (some ⟨gA, 0, none⟩) x.length c1, .slice (some ⟨gB, 0, none⟩) y.length d1], .int .i64 0])) ((w2.setCell ⟨w.heap.size, 0, none⟩ (.slice (some ⟨gA, 0, none⟩) x.length c1)).setCell ⟨w.heap.size, 1, none⟩ (.slice (some ⟨gB, 0, none⟩) y.length d1))) := Lib.hid ⟨_, _, _, _, U, V, rfl, by omega, by omega, hU2, hV2, hP, ext_set2' hE2 (Nat.le_refl _) _ _ _ _⟩
  clear key hU hV hU2 hV2 hP
  go_wp2_with fail
  refine bodyPost_ret (v := .tuple #[.agg #[.slice (some ⟨gA, 0, none⟩) x.length c1, .slice (some ⟨gB, 0, none⟩) y.length d1], .int .i64 0]) (by simp [results, Try.results37, go_sem, g0, g1]) rfl HR.out
set_option maxRecDepth 20000 in
set_option maxHeartbeats 8000000 in
theorem f38_c (ax bx a q ua va : Option Addr) (ca cb c d n m un uc vn vc : Nat) (N D : Int) (w : World) (hv : validJ ⟨N, D⟩ = true) (hle : N ≤ 1000000 * D) (hN : 0 ≤ N ∧ N ≤ 1000000000) (hD : 1 ≤ D ∧ D ≤ 1000)
    (C39 : ∀ W, Ext w W → Calls Try.prog 39 #[.slice ax n ca, .slice bx m cb, .slice a n c, .slice q n d, .agg #[.slice ua un uc, .slice va vn vc]] W fun e w' => e = .returned (.tuple #[.agg #[.int .i64 N, .int .i64 D], .int .i64 0]) ∧ Ext W w') :
    Calls Try.prog 38 #[.slice ax n ca, .slice bx m cb, .slice a n c, .slice q n d, .agg #[.slice ua un uc, .slice va vn vc], .agg #[.int .i64 N, .int .i64 D]] w (RetN 0 w) := by
  have hE00 := ext_alloc w (.cells #[.slice ua un uc, .slice va vn vc] 55)
  have hE0 := hE00.trans' (ext_alloc (w.alloc (.cells #[.slice ua un uc, .slice va vn vc] 55)) (.cells #[.int .i64 N, .int .i64 D] 46))
  have HA := Lib.hid ((BlkC.new w #[.slice ua un uc, .slice va vn vc] 55).alloc (.cells #[.int .i64 N, .int .i64 D] 46))
  have HB0 := BlkC.new (w.alloc (.cells #[.slice ua un uc, .slice va vn vc] 55)) #[.int .i64 N, .int .i64 D] 46
  simp only [World.size_alloc] at HB0
  have HB := Lib.hid HB0
  have C1 := Lib.hid C39
  have C2 := fun W => f88_j ⟨N, D⟩ W
  rw [hv] at C2
  have C2 := Lib.hid C2
  have g0 := HA.out.cellv 0 (v := .slice ua un uc) rfl
  have g1 := HA.out.cellv 1 (v := .slice va vn vc) rfl
  have k0 := HB.out.cellv 0 (v := .int .i64 N) rfl
  have k1 := HB.out.cellv 1 (v := .int .i64 D) rfl
  have hz := HB.out.lt
  have dle : decide (1000000 * D < N) = false := decide_eq_false (by omega)
  have hmul : 0 ≤ N * D ∧ N * D ≤ 1000000000000 := by
    refine ⟨Int.mul_nonneg hN.1 (by omega), ?_⟩
    have h1 : N * D ≤ N * 1000 := Int.mul_le_mul_of_nonneg_left hD.2 hN.1
    omega
  have dself : decide (N * D < N * D) = false := decide_eq_false (by omega)
  clear HB0 hv hle
  go_enter Try.func38, Try.ntmps38
  go_wp2_with fail
  generalize (w.alloc (.cells #[.slice ua un uc, .slice va vn vc] 55)).alloc (.cells #[.int .i64 N, .int .i64 D] 46) = w0 at *
  refine (C1.out w0 hE0).mono ?_
  rintro e w1 ⟨rfl, hX1⟩
  have hE1 := hE0.trans' hX1
  have hX2 := hX1.trans' (ext_alloc w1 (.cells #[.int .i64 N, .int .i64 D] 46))
  have HR := Lib.hid (BlkC.new w1 #[.int .i64 N, .int .i64 D] 46)
  have hz1 : w.heap.size + 1 < w1.heap.size := (HB.out.ext hX1).lt
  have k0 := (HB.out.ext hX2).cellv 0 (v := .int .i64 N) rfl
  have k1 := (HB.out.ext hX2).cellv 1 (v := .int .i64 D) rfl
  clear g0 g1 hE1
  go_wp2_with fail
  generalize w1.alloc (.cells #[.int .i64 N, .int .i64 D] 46) = w2 at *
  clear k0 k1
  refine (C2.out w2).mono ?_
  rintro e w3 ⟨rfl, hX3⟩
  have r0 := (HR.out.ext hX3).cellv 0 (v := .int .i64 N) rfl
  have r1 := (HR.out.ext hX3).cellv 1 (v := .int .i64 D) rfl
  have hzr := (HR.out.ext hX3).lt
  have hX3 := hX2.trans' hX3
  have k0 := (HB.out.ext hX3).cellv 0 (v := .int .i64 N) rfl
  have k1 := (HB.out.ext hX3).cellv 1 (v := .int .i64 D) rfl
  have hz3 := (HB.out.ext hX3).lt
  go_wp2_with fail
  go_ret
  exact ⟨rfl, hE0.trans' hX3⟩

end Go.Proofs.Ytaidoaggmllcfaa
