/- Contracts of layer 6: Kernel, FitRows, FitCols, of the program and of the reference. -/
import Derived.Test.YtaidoaggmllcfaaT5
namespace Go.Proofs.Ytaidoaggmllcfaa
open Go.RowKit
attribute [local go_sem] GW.cell

theorem f55_r (r : Int) (a : Option Addr) (n c : Nat) (l : List Int) (w : World) (hl : Ints w a l) (hn : l.length = n) (hlen : n ≤ 1000000) (hr : orL l = r) :
    Calls Try.prog 55 #[.slice a n c] w fun e w' => e = .returned (.int .i64 r) ∧ w = w' := by subst hr; exact f55_c a n c l w hl hn hlen
theorem ints_new3 (w : World) (x y z : Int) (T : TypeId) (B : Nat) (hB : w.heap.size = B) : Ints (w.alloc (.cells #[.int .i64 x, .int .i64 y, .int .i64 z] T)) (some ⟨B, 0, none⟩) [x, y, z] := by
  subst hB
  intro j hj
  refine ⟨_, _, rfl, by simp, ?_⟩
  match j, hj with
  | 0, _ => simp
  | 1, _ => simp
  | 2, _ => simp
theorem retTE_mk {T : TypeId} {t : Tbl} {w w2 w3 : World} {v : Value} {e : Int} (hE : Ext w w2) (hT : OwnT T w3 w2.heap.size w3.heap.size v t) (hE3 : Ext w2 w3) : RetTE T t e w (.returned (.tuple #[v, .int .i64 e])) w3 :=
  ⟨v, rfl, hT.low hE.size, hE.trans' hE3⟩
theorem tcols {t : Tbl} (h : ∀ j, (hj : j < t.length) → t[j].length ≤ 1000000) : ∀ j, (hj : j < t.length) → t[j].length ≤ 1000000 := h
/-! ### Kernel -/
def kerOk (t : Tbl) (s : Int) : Bool := tabB 0 99 t && withinB s 1 99
def kernelV (t : Tbl) (s : Int) : Tbl := if kerOk t s then kernelT t s else []
def kerErr (t : Tbl) (s : Int) : Int := errOf (kerOk t s)

set_option maxHeartbeats 2000000 in
theorem f15_c (a : Option Addr) (n c : Nat) (t : Tbl) (s : Int) (w : World) (hl : Table w a t) (hn : t.length = n) (hlen : n ≤ 1000000) (hin : ∀ j, (hj : j < t.length) → t[j].length ≤ 1000000) :
    Calls Try.prog 15 #[.slice a n c, .int .i64 s] w (RetTE 31 (kernelV t s) (kerErr t s) w) := by
  have C1 := f56_c a n c t w hl hn hlen hin
  unfold valT at C1
  cases h1 : tabB 0 99 t
  all_goals cases h2 : withinB s 1 99
  all_goals rw [h1] at C1
  · rw [show errOf false = 1 from rfl] at C1
    have C1 := Lib.hid C1
    rw [show kernelV t s = [] by simp [kernelV, kerOk, h1, h2], show kerErr t s = 1 by simp [kerErr, kerOk, h1, h2, errOf]]
    have C2 := Lib.hid (fun W => f57_c s W)
    rw [show errOf (withinB s 1 99) = 1 by rw [h2]; rfl] at C2
    clear h1 h2
    go_enter Try.func15, Try.ntmps15
    go_wp2_with (first | (go_at_call 56; refine C1.out.mono ?_; rintro e w1 ⟨rfl, hE1⟩) | (go_at_call 57; refine (C2.out _).mono ?_; rintro e w' ⟨rfl, rfl⟩) | (go_at_call 55; refine (f55_r 1 _ _ _ [1, 1] _ (ints_new2 _ _ _ _ _ rfl) rfl (by decide) rfl).mono ?_; rintro e w' ⟨rfl, rfl⟩))
    go_ret2
    exact retTE_nil (hE1.trans' (ext_alloc _ _))
  · rw [show errOf false = 1 from rfl] at C1
    have C1 := Lib.hid C1
    rw [show kernelV t s = [] by simp [kernelV, kerOk, h1, h2], show kerErr t s = 1 by simp [kerErr, kerOk, h1, h2, errOf]]
    have C2 := Lib.hid (fun W => f57_c s W)
    rw [show errOf (withinB s 1 99) = 0 by rw [h2]; rfl] at C2
    clear h1 h2
    go_enter Try.func15, Try.ntmps15
    go_wp2_with (first | (go_at_call 56; refine C1.out.mono ?_; rintro e w1 ⟨rfl, hE1⟩) | (go_at_call 57; refine (C2.out _).mono ?_; rintro e w' ⟨rfl, rfl⟩) | (go_at_call 55; refine (f55_r 1 _ _ _ [1, 0] _ (ints_new2 _ _ _ _ _ rfl) rfl (by decide) rfl).mono ?_; rintro e w' ⟨rfl, rfl⟩))
    go_ret2
    exact retTE_nil (hE1.trans' (ext_alloc _ _))
  · rw [show errOf true = 0 from rfl] at C1
    have C1 := Lib.hid C1
    rw [show kernelV t s = [] by simp [kernelV, kerOk, h1, h2], show kerErr t s = 1 by simp [kerErr, kerOk, h1, h2, errOf]]
    have C2 := Lib.hid (fun W => f57_c s W)
    rw [show errOf (withinB s 1 99) = 1 by rw [h2]; rfl] at C2
    clear h1 h2
    go_enter Try.func15, Try.ntmps15
    go_wp2_with (first | (go_at_call 56; refine C1.out.mono ?_; rintro e w1 ⟨rfl, hE1⟩) | (go_at_call 57; refine (C2.out _).mono ?_; rintro e w' ⟨rfl, rfl⟩) | (go_at_call 55; refine (f55_r 1 _ _ _ [0, 1] _ (ints_new2 _ _ _ _ _ rfl) rfl (by decide) rfl).mono ?_; rintro e w' ⟨rfl, rfl⟩))
    go_ret2
    exact retTE_nil (hE1.trans' (ext_alloc _ _))
  · rw [show errOf true = 0 from rfl] at C1
    have C1 := Lib.hid C1
    rw [show kernelV t s = kernelT t s by simp [kernelV, kerOk, h1, h2], show kerErr t s = 0 by simp [kerErr, kerOk, h1, h2, errOf]]
    have hs := withinB_iff.1 h2
    have H1 := Lib.hid h1
    have C2 := Lib.hid (fun W => f57_c s W)
    rw [show errOf (withinB s 1 99) = 0 by rw [h2]; rfl] at C2
    clear h1 h2
    go_enter Try.func15, Try.ntmps15
    go_wp2_with (first | (go_at_call 56; refine C1.out.mono ?_; rintro e w1 ⟨rfl, hE1⟩) | (go_at_call 57; refine (C2.out _).mono ?_; rintro e w' ⟨rfl, rfl⟩) | (go_at_call 55; refine (f55_r 0 _ _ _ [0, 0] _ (ints_new2 _ _ _ _ _ rfl) rfl (by decide) rfl).mono ?_; rintro e w' ⟨rfl, rfl⟩))
    refine (f58_c a n c t s _ (hl.ext (hE1.trans' (ext_alloc _ _))) hn H1.out hs).mono ?_
    rintro e w3 ⟨v, rfl, hT, hE3⟩
    obtain ⟨a8, c8, e8, _⟩ := hT.table
    subst e8
    have hR := Lib.hid (retTE_mk (e := 0) (hE1.trans' (ext_alloc _ _)) hT hE3)
    clear hT
    go_wp2_with fail
    go_ret2
    exact hR.out
set_option maxHeartbeats 2000000 in
theorem f16_c (a : Option Addr) (n c : Nat) (t : Tbl) (s : Int) (w : World) (hl : Table w a t) (hn : t.length = n) (hlen : n ≤ 1000000) (hin : ∀ j, (hj : j < t.length) → t[j].length ≤ 1000000) :
    Calls Try.prog 16 #[.slice a n c, .int .i64 s] w (RetTE 31 (kernelV t s) (kerErr t s) w) := by
  have C1 := f59_c a n c t w hl hn hlen hin
  unfold valT at C1
  cases h1 : tabB 0 99 t
  all_goals cases h2 : withinB s 1 99
  all_goals rw [h1] at C1
  · rw [show errOf false = 1 from rfl] at C1
    have C1 := Lib.hid C1
    rw [show kernelV t s = [] by simp [kernelV, kerOk, h1, h2], show kerErr t s = 1 by simp [kerErr, kerOk, h1, h2, errOf]]
    have C2 := Lib.hid (fun W => f60_c s 1 99 W)
    rw [h2] at C2
    clear h1 h2
    go_enter Try.func16, Try.ntmps16
    go_wp2_with (first | (go_at_call 59; refine C1.out.mono ?_; rintro e w1 ⟨rfl, hE1⟩) | (go_at_call 60; refine (C2.out _).mono ?_; rintro e w' ⟨rfl, rfl⟩))
    go_ret2
    exact retTE_nil hE1
  · rw [show errOf false = 1 from rfl] at C1
    have C1 := Lib.hid C1
    rw [show kernelV t s = [] by simp [kernelV, kerOk, h1, h2], show kerErr t s = 1 by simp [kerErr, kerOk, h1, h2, errOf]]
    have C2 := Lib.hid (fun W => f60_c s 1 99 W)
    rw [h2] at C2
    clear h1 h2
    go_enter Try.func16, Try.ntmps16
    go_wp2_with (first | (go_at_call 59; refine C1.out.mono ?_; rintro e w1 ⟨rfl, hE1⟩) | (go_at_call 60; refine (C2.out _).mono ?_; rintro e w' ⟨rfl, rfl⟩))
    go_ret2
    exact retTE_nil hE1
  · rw [show errOf true = 0 from rfl] at C1
    have C1 := Lib.hid C1
    rw [show kernelV t s = [] by simp [kernelV, kerOk, h1, h2], show kerErr t s = 1 by simp [kerErr, kerOk, h1, h2, errOf]]
    have C2 := Lib.hid (fun W => f60_c s 1 99 W)
    rw [h2] at C2
    clear h1 h2
    go_enter Try.func16, Try.ntmps16
    go_wp2_with (first | (go_at_call 59; refine C1.out.mono ?_; rintro e w1 ⟨rfl, hE1⟩) | (go_at_call 60; refine (C2.out _).mono ?_; rintro e w' ⟨rfl, rfl⟩))
    go_ret2
    exact retTE_nil hE1
  · rw [show errOf true = 0 from rfl] at C1
    have C1 := Lib.hid C1
    rw [show kernelV t s = kernelT t s by simp [kernelV, kerOk, h1, h2], show kerErr t s = 0 by simp [kerErr, kerOk, h1, h2, errOf]]
    have hs := withinB_iff.1 h2
    have H1 := Lib.hid h1
    have C2 := Lib.hid (fun W => f60_c s 1 99 W)
    rw [h2] at C2
    clear h1 h2
    go_enter Try.func16, Try.ntmps16
    go_wp2_with (first | (go_at_call 59; refine C1.out.mono ?_; rintro e w1 ⟨rfl, hE1⟩) | (go_at_call 60; refine (C2.out _).mono ?_; rintro e w' ⟨rfl, rfl⟩))
    refine (f61_c a n c t s _ (hl.ext hE1) hn H1.out hs).mono ?_
    rintro e w3 ⟨v, rfl, hT, hE3⟩
    obtain ⟨a8, c8, e8, _⟩ := hT.table
    subst e8
    have hR := Lib.hid (retTE_mk (e := 0) hE1 hT hE3)
    clear hT
    go_wp2_with fail
    go_ret2
    exact hR.out

/-! ### FitRows, FitCols -/
def rowsOk (t : Tbl) (l : List Int) : Bool := tabB 0 1000000 t && (massB l && decide (l.length = t.length))
def colsOk (t : Tbl) (l : List Int) : Bool := tabB 0 1000000 t && (massB l && decide (l.length = (row t 0).length))
def fitRowsV (t : Tbl) (l : List Int) : Tbl := if rowsOk t l then fitR t.length (row t 0).length t l else []
def fitColsV (t : Tbl) (l : List Int) : Tbl := if colsOk t l then fitC t.length (row t 0).length t l else []
theorem turn_ok {n m : Nat} {lo hi : Int} {t : Tbl} (h : TOk n m lo hi t) : TOk m n lo hi (turnT n m t) :=
  ⟨h.m1, h.m5, h.n1, h.n5, mk_len _ _ _, fun i hi => mk_cols _ hi, fun i j hi hj => by unfold turnT; rw [tg_mk _ hi hj]; exact h.bd j i hj hi⟩
theorem csTo_sm {t : Tbl} {n m j : Nat} (hj : j < m) : ∀ k, k ≤ n → smTo (row (turnT n m t) j) k = csTo t j k
  | 0, _ => rfl
  | k + 1, hk => by
    rw [smTo_succ, csTo_sm hj k (by omega)]
    show _ = csTo t j k + tg t k j
    have e : gi (row (turnT n m t) j) k = tg t k j := tg_mk (n := m) (m := n) (fun i j => tg t j i) hj (show k < n by omega)
    rw [e]
theorem turn_fit {n m : Nat} {lo hi : Int} {t : Tbl} (h : TOk n m lo hi t) (l : List Int) : turnT m n (fitR m n (turnT n m t) l) = fitC n m t l := by
  unfold turnT fitR fitC
  refine mk_eq fun i j hi hj => ?_
  rw [tg_mk _ hj hi, tg_mk _ hj hi]
  have e : sm (row (mk m n fun i j => tg t j i) j) = cs t j := by
    have := csTo_sm (t := t) (n := n) (m := m) hj n (Nat.le_refl _)
    unfold sm
    rw [mk_cols _ hj, cs_n h]
    exact this
  rw [e]

set_option maxHeartbeats 4000000 in
theorem f22_c (a b : Option Addr) (n c m2 c2 : Nat) (t : Tbl) (l : List Int) (w : World) (hl : Table w a t) (hn : t.length = n) (hlen : n ≤ 1000000) (hin : ∀ j, (hj : j < t.length) → t[j].length ≤ 1000000) (hb : Ints w b l) (hm : l.length = m2) (hlen2 : m2 ≤ 1000000) :
    Calls Try.prog 22 #[.slice a n c, .slice b m2 c2] w (RetTE 31 (fitRowsV t l) (errOf (rowsOk t l)) w) := by
  have C1 := f17_c a n c t w hl hn hlen hin
  have C2 := fun W (h : Ext w W) => f66_c b m2 c2 l W (hb.ext h) hm hlen2
  unfold valT at C1
  unfold valM at C2
  cases h1 : tabB 0 1000000 t
  all_goals cases h2 : massB l
  all_goals cases h3 : decide (l.length = t.length)
  all_goals rw [h1] at C1
  all_goals rw [h2] at C2
  · rw [show errOf false = 1 from rfl] at C1
    rw [show errOf false = 1 from rfl] at C2
    have C1 := Lib.hid C1
    have C2 := Lib.hid C2
    rw [show fitRowsV t l = [] by simp only [fitRowsV, rowsOk, h1, h2, h3]; rfl, show errOf (rowsOk t l) = 1 by simp only [rowsOk, h1, h2, h3]; rfl]
    have h4 : ¬ l.length = t.length := by simpa using h3
    clear h1 h2 h3
    go_enter Try.func22, Try.ntmps22
    go_wp2_with (first | (go_at_call 17; refine C1.out.mono ?_; rintro e w1 ⟨rfl, hE1⟩) | (go_at_call 66; refine (C2.out _ hE1).mono ?_; rintro e w' ⟨rfl, rfl⟩) | (go_at_call 55; refine (f55_r 1 _ _ _ [1, 1] _ (ints_new2 _ _ _ _ _ rfl) rfl (by decide) rfl).mono ?_; rintro e w' ⟨rfl, rfl⟩; have hE2 := hE1.trans' (ext_alloc _ (.cells #[.int .i64 1, .int .i64 1] 25))))
    go_ret2
    exact retTE_nil hE2
  · rw [show errOf false = 1 from rfl] at C1
    rw [show errOf false = 1 from rfl] at C2
    have C1 := Lib.hid C1
    have C2 := Lib.hid C2
    rw [show fitRowsV t l = [] by simp only [fitRowsV, rowsOk, h1, h2, h3]; rfl, show errOf (rowsOk t l) = 1 by simp only [rowsOk, h1, h2, h3]; rfl]
    have h4 : l.length = t.length := by simpa using h3
    clear h1 h2 h3
    go_enter Try.func22, Try.ntmps22
    go_wp2_with (first | (go_at_call 17; refine C1.out.mono ?_; rintro e w1 ⟨rfl, hE1⟩) | (go_at_call 66; refine (C2.out _ hE1).mono ?_; rintro e w' ⟨rfl, rfl⟩) | (go_at_call 55; refine (f55_r 1 _ _ _ [1, 1] _ (ints_new2 _ _ _ _ _ rfl) rfl (by decide) rfl).mono ?_; rintro e w' ⟨rfl, rfl⟩; have hE2 := hE1.trans' (ext_alloc _ (.cells #[.int .i64 1, .int .i64 1] 25))))
    go_ret2
    exact retTE_nil hE2
  · rw [show errOf false = 1 from rfl] at C1
    rw [show errOf true = 0 from rfl] at C2
    have C1 := Lib.hid C1
    have C2 := Lib.hid C2
    rw [show fitRowsV t l = [] by simp only [fitRowsV, rowsOk, h1, h2, h3]; rfl, show errOf (rowsOk t l) = 1 by simp only [rowsOk, h1, h2, h3]; rfl]
    have h4 : ¬ l.length = t.length := by simpa using h3
    clear h1 h2 h3
    go_enter Try.func22, Try.ntmps22
    go_wp2_with (first | (go_at_call 17; refine C1.out.mono ?_; rintro e w1 ⟨rfl, hE1⟩) | (go_at_call 66; refine (C2.out _ hE1).mono ?_; rintro e w' ⟨rfl, rfl⟩) | (go_at_call 55; refine (f55_r 1 _ _ _ [1, 0] _ (ints_new2 _ _ _ _ _ rfl) rfl (by decide) rfl).mono ?_; rintro e w' ⟨rfl, rfl⟩; have hE2 := hE1.trans' (ext_alloc _ (.cells #[.int .i64 1, .int .i64 0] 25))))
    go_ret2
    exact retTE_nil hE2
  · rw [show errOf false = 1 from rfl] at C1
    rw [show errOf true = 0 from rfl] at C2
    have C1 := Lib.hid C1
    have C2 := Lib.hid C2
    rw [show fitRowsV t l = [] by simp only [fitRowsV, rowsOk, h1, h2, h3]; rfl, show errOf (rowsOk t l) = 1 by simp only [rowsOk, h1, h2, h3]; rfl]
    have h4 : l.length = t.length := by simpa using h3
    clear h1 h2 h3
    go_enter Try.func22, Try.ntmps22
    go_wp2_with (first | (go_at_call 17; refine C1.out.mono ?_; rintro e w1 ⟨rfl, hE1⟩) | (go_at_call 66; refine (C2.out _ hE1).mono ?_; rintro e w' ⟨rfl, rfl⟩) | (go_at_call 55; refine (f55_r 1 _ _ _ [1, 0] _ (ints_new2 _ _ _ _ _ rfl) rfl (by decide) rfl).mono ?_; rintro e w' ⟨rfl, rfl⟩; have hE2 := hE1.trans' (ext_alloc _ (.cells #[.int .i64 1, .int .i64 0] 25))))
    go_ret2
    exact retTE_nil hE2
  · rw [show errOf true = 0 from rfl] at C1
    rw [show errOf false = 1 from rfl] at C2
    have C1 := Lib.hid C1
    have C2 := Lib.hid C2
    rw [show fitRowsV t l = [] by simp only [fitRowsV, rowsOk, h1, h2, h3]; rfl, show errOf (rowsOk t l) = 1 by simp only [rowsOk, h1, h2, h3]; rfl]
    have h4 : ¬ l.length = t.length := by simpa using h3
    clear h1 h2 h3
    go_enter Try.func22, Try.ntmps22
    go_wp2_with (first | (go_at_call 17; refine C1.out.mono ?_; rintro e w1 ⟨rfl, hE1⟩) | (go_at_call 66; refine (C2.out _ hE1).mono ?_; rintro e w' ⟨rfl, rfl⟩) | (go_at_call 55; refine (f55_r 1 _ _ _ [0, 1] _ (ints_new2 _ _ _ _ _ rfl) rfl (by decide) rfl).mono ?_; rintro e w' ⟨rfl, rfl⟩; have hE2 := hE1.trans' (ext_alloc _ (.cells #[.int .i64 0, .int .i64 1] 25))))
    go_ret2
    exact retTE_nil hE2
  · rw [show errOf true = 0 from rfl] at C1
    rw [show errOf false = 1 from rfl] at C2
    have C1 := Lib.hid C1
    have C2 := Lib.hid C2
    rw [show fitRowsV t l = [] by simp only [fitRowsV, rowsOk, h1, h2, h3]; rfl, show errOf (rowsOk t l) = 1 by simp only [rowsOk, h1, h2, h3]; rfl]
    have h4 : l.length = t.length := by simpa using h3
    clear h1 h2 h3
    go_enter Try.func22, Try.ntmps22
    go_wp2_with (first | (go_at_call 17; refine C1.out.mono ?_; rintro e w1 ⟨rfl, hE1⟩) | (go_at_call 66; refine (C2.out _ hE1).mono ?_; rintro e w' ⟨rfl, rfl⟩) | (go_at_call 55; refine (f55_r 1 _ _ _ [0, 1] _ (ints_new2 _ _ _ _ _ rfl) rfl (by decide) rfl).mono ?_; rintro e w' ⟨rfl, rfl⟩; have hE2 := hE1.trans' (ext_alloc _ (.cells #[.int .i64 0, .int .i64 1] 25))))
    go_ret2
    exact retTE_nil hE2
  · rw [show errOf true = 0 from rfl] at C1
    rw [show errOf true = 0 from rfl] at C2
    have C1 := Lib.hid C1
    have C2 := Lib.hid C2
    rw [show fitRowsV t l = [] by simp only [fitRowsV, rowsOk, h1, h2, h3]; rfl, show errOf (rowsOk t l) = 1 by simp only [rowsOk, h1, h2, h3]; rfl]
    have h4 : ¬ l.length = t.length := by simpa using h3
    have H0 := tabB_ok h1
    have hlb := (massB_ok h2).2.2
    have HT := Lib.hid H0
    have Hlb := Lib.hid hlb
    clear H0 hlb
    subst hn hm
    have C3 := Lib.hid (fun W => f67_c ((l.length : Nat) : Int) ((t.length : Nat) : Int) W)
    rw [if_neg (by omega)] at C3
    clear h1 h2 h3 h4
    go_enter Try.func22, Try.ntmps22
    go_wp2_with (first | (go_at_call 17; refine C1.out.mono ?_; rintro e w1 ⟨rfl, hE1⟩) | (go_at_call 66; refine (C2.out _ hE1).mono ?_; rintro e w' ⟨rfl, rfl⟩) | (go_at_call 55; refine (f55_r 0 _ _ _ [0, 0] _ (ints_new2 _ _ _ _ _ rfl) rfl (by decide) rfl).mono ?_; rintro e w' ⟨rfl, rfl⟩; have hE2 := hE1.trans' (ext_alloc _ (.cells #[.int .i64 0, .int .i64 0] 25))) | (go_at_call 67; refine (C3.out _).mono ?_; rintro e w' ⟨rfl, rfl⟩))
    go_ret2
    exact retTE_nil hE2
  · rw [show errOf true = 0 from rfl] at C1
    rw [show errOf true = 0 from rfl] at C2
    have C1 := Lib.hid C1
    have C2 := Lib.hid C2
    have hok : rowsOk t l = true := by simp only [rowsOk, h1, h2, h3]; rfl
    rw [show fitRowsV t l = fitR t.length (row t 0).length t l by unfold fitRowsV; rw [if_pos hok], hok, show errOf true = 0 from rfl]
    clear hok
    have h4 : l.length = t.length := by simpa using h3
    have H0 := tabB_ok h1
    have hlb := (massB_ok h2).2.2
    have HT := Lib.hid H0
    have Hlb := Lib.hid hlb
    obtain ⟨b0, o0, a0, c0, e0, hb0, hc0, hI0⟩ := hl 0 (by have := H0.n1; omega)
    subst e0
    rw [← row_at (by have := H0.n1; omega)] at hc0
    simp only [Nat.add_zero] at hc0
    clear hI0
    clear H0 hlb
    subst hn hm
    have C3 := Lib.hid (fun W => f67_c ((l.length : Nat) : Int) ((t.length : Nat) : Int) W)
    rw [if_pos (by omega)] at C3
    clear h1 h2 h3
    have H4 := Lib.hid h4
    clear h4
    go_enter Try.func22, Try.ntmps22
    go_wp2_with (first | (go_at_call 17; refine C1.out.mono ?_; rintro e w1 ⟨rfl, hE1⟩) | (go_at_call 66; refine (C2.out _ hE1).mono ?_; rintro e w' ⟨rfl, rfl⟩) | (go_at_call 55; refine (f55_r 0 _ _ _ [0, 0] _ (ints_new2 _ _ _ _ _ rfl) rfl (by decide) rfl).mono ?_; rintro e w' ⟨rfl, rfl⟩; have hE2 := hE1.trans' (ext_alloc _ (.cells #[.int .i64 0, .int .i64 0] 25))) | (go_at_call 67; refine (C3.out _).mono ?_; rintro e w' ⟨rfl, rfl⟩))
    rw [H4.out]
    refine (f68_r _ b _ c c2 _ t l _ (hl.ext hE2) HT.out (hb.ext hE2) H4.out Hlb.out).mono ?_
    rintro e w3 ⟨v, rfl, hT, hE3⟩
    obtain ⟨a8, c8, e8, _⟩ := hT.table
    subst e8
    have hR := Lib.hid (retTE_mk (e := 0) hE2 hT hE3)
    clear hT
    go_wp2_with fail
    go_ret2
    exact hR.out
set_option maxHeartbeats 4000000 in
theorem f23_c (a b : Option Addr) (n c m2 c2 : Nat) (t : Tbl) (l : List Int) (w : World) (hl : Table w a t) (hn : t.length = n) (hlen : n ≤ 1000000) (hin : ∀ j, (hj : j < t.length) → t[j].length ≤ 1000000) (hb : Ints w b l) (hm : l.length = m2) (hlen2 : m2 ≤ 1000000) :
    Calls Try.prog 23 #[.slice a n c, .slice b m2 c2] w (RetTE 31 (fitRowsV t l) (errOf (rowsOk t l)) w) := by
  have C1 := f18_c a n c t w hl hn hlen hin
  have C2 := fun W (h : Ext w W) => f69_c b m2 c2 l W (hb.ext h) hm hlen2
  unfold valT at C1
  unfold valM at C2
  cases h1 : tabB 0 1000000 t
  all_goals cases h2 : massB l
  all_goals cases h3 : decide (l.length = t.length)
  all_goals rw [h1] at C1
  all_goals rw [h2] at C2
  · rw [show errOf false = 1 from rfl] at C1
    rw [show errOf false = 1 from rfl] at C2
    have C1 := Lib.hid C1
    have C2 := Lib.hid C2
    rw [show fitRowsV t l = [] by simp only [fitRowsV, rowsOk, h1, h2, h3]; rfl, show errOf (rowsOk t l) = 1 by simp only [rowsOk, h1, h2, h3]; rfl]
    have h4 : ¬ l.length = t.length := by simpa using h3
    clear h1 h2 h3
    go_enter Try.func23, Try.ntmps23
    go_wp2_with (first | (go_at_call 18; refine C1.out.mono ?_; rintro e w1 ⟨rfl, hE1⟩) | (go_at_call 69; refine (C2.out _ hE1).mono ?_; rintro e w' ⟨rfl, rfl⟩))
    go_ret2
    exact retTE_nil hE1
  · rw [show errOf false = 1 from rfl] at C1
    rw [show errOf false = 1 from rfl] at C2
    have C1 := Lib.hid C1
    have C2 := Lib.hid C2
    rw [show fitRowsV t l = [] by simp only [fitRowsV, rowsOk, h1, h2, h3]; rfl, show errOf (rowsOk t l) = 1 by simp only [rowsOk, h1, h2, h3]; rfl]
    have h4 : l.length = t.length := by simpa using h3
    clear h1 h2 h3
    go_enter Try.func23, Try.ntmps23
    go_wp2_with (first | (go_at_call 18; refine C1.out.mono ?_; rintro e w1 ⟨rfl, hE1⟩) | (go_at_call 69; refine (C2.out _ hE1).mono ?_; rintro e w' ⟨rfl, rfl⟩))
    go_ret2
    exact retTE_nil hE1
  · rw [show errOf false = 1 from rfl] at C1
    rw [show errOf true = 0 from rfl] at C2
    have C1 := Lib.hid C1
    have C2 := Lib.hid C2
    rw [show fitRowsV t l = [] by simp only [fitRowsV, rowsOk, h1, h2, h3]; rfl, show errOf (rowsOk t l) = 1 by simp only [rowsOk, h1, h2, h3]; rfl]
    have h4 : ¬ l.length = t.length := by simpa using h3
    clear h1 h2 h3
    go_enter Try.func23, Try.ntmps23
    go_wp2_with (first | (go_at_call 18; refine C1.out.mono ?_; rintro e w1 ⟨rfl, hE1⟩) | (go_at_call 69; refine (C2.out _ hE1).mono ?_; rintro e w' ⟨rfl, rfl⟩))
    go_ret2
    exact retTE_nil hE1
  · rw [show errOf false = 1 from rfl] at C1
    rw [show errOf true = 0 from rfl] at C2
    have C1 := Lib.hid C1
    have C2 := Lib.hid C2
    rw [show fitRowsV t l = [] by simp only [fitRowsV, rowsOk, h1, h2, h3]; rfl, show errOf (rowsOk t l) = 1 by simp only [rowsOk, h1, h2, h3]; rfl]
    have h4 : l.length = t.length := by simpa using h3
    clear h1 h2 h3
    go_enter Try.func23, Try.ntmps23
    go_wp2_with (first | (go_at_call 18; refine C1.out.mono ?_; rintro e w1 ⟨rfl, hE1⟩) | (go_at_call 69; refine (C2.out _ hE1).mono ?_; rintro e w' ⟨rfl, rfl⟩))
    go_ret2
    exact retTE_nil hE1
  · rw [show errOf true = 0 from rfl] at C1
    rw [show errOf false = 1 from rfl] at C2
    have C1 := Lib.hid C1
    have C2 := Lib.hid C2
    rw [show fitRowsV t l = [] by simp only [fitRowsV, rowsOk, h1, h2, h3]; rfl, show errOf (rowsOk t l) = 1 by simp only [rowsOk, h1, h2, h3]; rfl]
    have h4 : ¬ l.length = t.length := by simpa using h3
    clear h1 h2 h3
    go_enter Try.func23, Try.ntmps23
    go_wp2_with (first | (go_at_call 18; refine C1.out.mono ?_; rintro e w1 ⟨rfl, hE1⟩) | (go_at_call 69; refine (C2.out _ hE1).mono ?_; rintro e w' ⟨rfl, rfl⟩))
    go_ret2
    exact retTE_nil hE1
  · rw [show errOf true = 0 from rfl] at C1
    rw [show errOf false = 1 from rfl] at C2
    have C1 := Lib.hid C1
    have C2 := Lib.hid C2
    rw [show fitRowsV t l = [] by simp only [fitRowsV, rowsOk, h1, h2, h3]; rfl, show errOf (rowsOk t l) = 1 by simp only [rowsOk, h1, h2, h3]; rfl]
    have h4 : l.length = t.length := by simpa using h3
    clear h1 h2 h3
    go_enter Try.func23, Try.ntmps23
    go_wp2_with (first | (go_at_call 18; refine C1.out.mono ?_; rintro e w1 ⟨rfl, hE1⟩) | (go_at_call 69; refine (C2.out _ hE1).mono ?_; rintro e w' ⟨rfl, rfl⟩))
    go_ret2
    exact retTE_nil hE1
  · rw [show errOf true = 0 from rfl] at C1
    rw [show errOf true = 0 from rfl] at C2
    have C1 := Lib.hid C1
    have C2 := Lib.hid C2
    rw [show fitRowsV t l = [] by simp only [fitRowsV, rowsOk, h1, h2, h3]; rfl, show errOf (rowsOk t l) = 1 by simp only [rowsOk, h1, h2, h3]; rfl]
    have h4 : ¬ l.length = t.length := by simpa using h3
    have H0 := tabB_ok h1
    have hlb := (massB_ok h2).2.2
    have HT := Lib.hid H0
    have Hlb := Lib.hid hlb
    clear H0 hlb
    subst hn hm
    have d3 : (((t.length : Nat) : Int) != ((l.length : Nat) : Int)) = true := by simp; omega
    clear h1 h2 h3 h4
    go_enter Try.func23, Try.ntmps23
    go_wp2_with (first | (go_at_call 18; refine C1.out.mono ?_; rintro e w1 ⟨rfl, hE1⟩) | (go_at_call 69; refine (C2.out _ hE1).mono ?_; rintro e w' ⟨rfl, rfl⟩))
    go_ret2
    exact retTE_nil hE1
  · rw [show errOf true = 0 from rfl] at C1
    rw [show errOf true = 0 from rfl] at C2
    have C1 := Lib.hid C1
    have C2 := Lib.hid C2
    have hok : rowsOk t l = true := by simp only [rowsOk, h1, h2, h3]; rfl
    rw [show fitRowsV t l = fitR t.length (row t 0).length t l by unfold fitRowsV; rw [if_pos hok], hok, show errOf true = 0 from rfl]
    clear hok
    have h4 : l.length = t.length := by simpa using h3
    have H0 := tabB_ok h1
    have hlb := (massB_ok h2).2.2
    have HT := Lib.hid H0
    have Hlb := Lib.hid hlb
    obtain ⟨b0, o0, a0, c0, e0, hb0, hc0, hI0⟩ := hl 0 (by have := H0.n1; omega)
    subst e0
    rw [← row_at (by have := H0.n1; omega)] at hc0
    simp only [Nat.add_zero] at hc0
    clear hI0
    clear H0 hlb
    subst hn hm
    have d3 : (((t.length : Nat) : Int) != ((l.length : Nat) : Int)) = false := by simp; omega
    clear h1 h2 h3
    have H4 := Lib.hid h4
    clear h4
    go_enter Try.func23, Try.ntmps23
    go_wp2_with (first | (go_at_call 18; refine C1.out.mono ?_; rintro e w1 ⟨rfl, hE1⟩) | (go_at_call 69; refine (C2.out _ hE1).mono ?_; rintro e w' ⟨rfl, rfl⟩))
    rw [H4.out]
    refine (f70_c _ b _ c c2 _ t l _ (hl.ext hE1) HT.out (hb.ext hE1) H4.out Hlb.out).mono ?_
    rintro e w3 ⟨v, rfl, hT, hE3⟩
    obtain ⟨a8, c8, e8, _⟩ := hT.table
    subst e8
    have hR := Lib.hid (retTE_mk (e := 0) hE1 hT hE3)
    clear hT
    go_wp2_with fail
    go_ret2
    exact hR.out
set_option maxHeartbeats 4000000 in
theorem f24_c (a b : Option Addr) (n c m2 c2 : Nat) (t : Tbl) (l : List Int) (w : World) (hl : Table w a t) (hn : t.length = n) (hlen : n ≤ 1000000) (hin : ∀ j, (hj : j < t.length) → t[j].length ≤ 1000000) (hb : Ints w b l) (hm : l.length = m2) (hlen2 : m2 ≤ 1000000) :
    Calls Try.prog 24 #[.slice a n c, .slice b m2 c2] w (RetTE 31 (fitColsV t l) (errOf (colsOk t l)) w) := by
  have C1 := f17_c a n c t w hl hn hlen hin
  have C2 := fun W (h : Ext w W) => f66_c b m2 c2 l W (hb.ext h) hm hlen2
  unfold valT at C1
  unfold valM at C2
  cases h1 : tabB 0 1000000 t
  all_goals cases h2 : massB l
  all_goals cases h3 : decide (l.length = (row t 0).length)
  all_goals rw [h1] at C1
  all_goals rw [h2] at C2
  · rw [show errOf false = 1 from rfl] at C1
    rw [show errOf false = 1 from rfl] at C2
    have C1 := Lib.hid C1
    have C2 := Lib.hid C2
    rw [show fitColsV t l = [] by simp only [fitColsV, colsOk, h1, h2, h3]; rfl, show errOf (colsOk t l) = 1 by simp only [colsOk, h1, h2, h3]; rfl]
    have h4 : ¬ l.length = (row t 0).length := by simpa using h3
    clear h1 h2 h3
    go_enter Try.func24, Try.ntmps24
    go_wp2_with (first | (go_at_call 17; refine C1.out.mono ?_; rintro e w1 ⟨rfl, hE1⟩) | (go_at_call 66; refine (C2.out _ hE1).mono ?_; rintro e w' ⟨rfl, rfl⟩) | (go_at_call 55; refine (f55_r 1 _ _ _ [1, 1] _ (ints_new2 _ _ _ _ _ rfl) rfl (by decide) rfl).mono ?_; rintro e w' ⟨rfl, rfl⟩; have hE2 := hE1.trans' (ext_alloc _ (.cells #[.int .i64 1, .int .i64 1] 25))))
    go_ret2
    exact retTE_nil hE2
  · rw [show errOf false = 1 from rfl] at C1
    rw [show errOf false = 1 from rfl] at C2
    have C1 := Lib.hid C1
    have C2 := Lib.hid C2
    rw [show fitColsV t l = [] by simp only [fitColsV, colsOk, h1, h2, h3]; rfl, show errOf (colsOk t l) = 1 by simp only [colsOk, h1, h2, h3]; rfl]
    have h4 : l.length = (row t 0).length := by simpa using h3
    clear h1 h2 h3
    go_enter Try.func24, Try.ntmps24
    go_wp2_with (first | (go_at_call 17; refine C1.out.mono ?_; rintro e w1 ⟨rfl, hE1⟩) | (go_at_call 66; refine (C2.out _ hE1).mono ?_; rintro e w' ⟨rfl, rfl⟩) | (go_at_call 55; refine (f55_r 1 _ _ _ [1, 1] _ (ints_new2 _ _ _ _ _ rfl) rfl (by decide) rfl).mono ?_; rintro e w' ⟨rfl, rfl⟩; have hE2 := hE1.trans' (ext_alloc _ (.cells #[.int .i64 1, .int .i64 1] 25))))
    go_ret2
    exact retTE_nil hE2
  · rw [show errOf false = 1 from rfl] at C1
    rw [show errOf true = 0 from rfl] at C2
    have C1 := Lib.hid C1
    have C2 := Lib.hid C2
    rw [show fitColsV t l = [] by simp only [fitColsV, colsOk, h1, h2, h3]; rfl, show errOf (colsOk t l) = 1 by simp only [colsOk, h1, h2, h3]; rfl]
    have h4 : ¬ l.length = (row t 0).length := by simpa using h3
    clear h1 h2 h3
    go_enter Try.func24, Try.ntmps24
    go_wp2_with (first | (go_at_call 17; refine C1.out.mono ?_; rintro e w1 ⟨rfl, hE1⟩) | (go_at_call 66; refine (C2.out _ hE1).mono ?_; rintro e w' ⟨rfl, rfl⟩) | (go_at_call 55; refine (f55_r 1 _ _ _ [1, 0] _ (ints_new2 _ _ _ _ _ rfl) rfl (by decide) rfl).mono ?_; rintro e w' ⟨rfl, rfl⟩; have hE2 := hE1.trans' (ext_alloc _ (.cells #[.int .i64 1, .int .i64 0] 25))))
    go_ret2
    exact retTE_nil hE2
  · rw [show errOf false = 1 from rfl] at C1
    rw [show errOf true = 0 from rfl] at C2
    have C1 := Lib.hid C1
    have C2 := Lib.hid C2
    rw [show fitColsV t l = [] by simp only [fitColsV, colsOk, h1, h2, h3]; rfl, show errOf (colsOk t l) = 1 by simp only [colsOk, h1, h2, h3]; rfl]
    have h4 : l.length = (row t 0).length := by simpa using h3
    clear h1 h2 h3
    go_enter Try.func24, Try.ntmps24
    go_wp2_with (first | (go_at_call 17; refine C1.out.mono ?_; rintro e w1 ⟨rfl, hE1⟩) | (go_at_call 66; refine (C2.out _ hE1).mono ?_; rintro e w' ⟨rfl, rfl⟩) | (go_at_call 55; refine (f55_r 1 _ _ _ [1, 0] _ (ints_new2 _ _ _ _ _ rfl) rfl (by decide) rfl).mono ?_; rintro e w' ⟨rfl, rfl⟩; have hE2 := hE1.trans' (ext_alloc _ (.cells #[.int .i64 1, .int .i64 0] 25))))
    go_ret2
    exact retTE_nil hE2
  · rw [show errOf true = 0 from rfl] at C1
    rw [show errOf false = 1 from rfl] at C2
    have C1 := Lib.hid C1
    have C2 := Lib.hid C2
    rw [show fitColsV t l = [] by simp only [fitColsV, colsOk, h1, h2, h3]; rfl, show errOf (colsOk t l) = 1 by simp only [colsOk, h1, h2, h3]; rfl]
    have h4 : ¬ l.length = (row t 0).length := by simpa using h3
    clear h1 h2 h3
    go_enter Try.func24, Try.ntmps24
    go_wp2_with (first | (go_at_call 17; refine C1.out.mono ?_; rintro e w1 ⟨rfl, hE1⟩) | (go_at_call 66; refine (C2.out _ hE1).mono ?_; rintro e w' ⟨rfl, rfl⟩) | (go_at_call 55; refine (f55_r 1 _ _ _ [0, 1] _ (ints_new2 _ _ _ _ _ rfl) rfl (by decide) rfl).mono ?_; rintro e w' ⟨rfl, rfl⟩; have hE2 := hE1.trans' (ext_alloc _ (.cells #[.int .i64 0, .int .i64 1] 25))))
    go_ret2
    exact retTE_nil hE2
  · rw [show errOf true = 0 from rfl] at C1
    rw [show errOf false = 1 from rfl] at C2
    have C1 := Lib.hid C1
    have C2 := Lib.hid C2
    rw [show fitColsV t l = [] by simp only [fitColsV, colsOk, h1, h2, h3]; rfl, show errOf (colsOk t l) = 1 by simp only [colsOk, h1, h2, h3]; rfl]
    have h4 : l.length = (row t 0).length := by simpa using h3
    clear h1 h2 h3
    go_enter Try.func24, Try.ntmps24
    go_wp2_with (first | (go_at_call 17; refine C1.out.mono ?_; rintro e w1 ⟨rfl, hE1⟩) | (go_at_call 66; refine (C2.out _ hE1).mono ?_; rintro e w' ⟨rfl, rfl⟩) | (go_at_call 55; refine (f55_r 1 _ _ _ [0, 1] _ (ints_new2 _ _ _ _ _ rfl) rfl (by decide) rfl).mono ?_; rintro e w' ⟨rfl, rfl⟩; have hE2 := hE1.trans' (ext_alloc _ (.cells #[.int .i64 0, .int .i64 1] 25))))
    go_ret2
    exact retTE_nil hE2
  · rw [show errOf true = 0 from rfl] at C1
    rw [show errOf true = 0 from rfl] at C2
    have C1 := Lib.hid C1
    have C2 := Lib.hid C2
    rw [show fitColsV t l = [] by simp only [fitColsV, colsOk, h1, h2, h3]; rfl, show errOf (colsOk t l) = 1 by simp only [colsOk, h1, h2, h3]; rfl]
    have h4 : ¬ l.length = (row t 0).length := by simpa using h3
    have H0 := tabB_ok h1
    have hlb := (massB_ok h2).2.2
    have HT := Lib.hid H0
    have Hlb := Lib.hid hlb
    obtain ⟨b0, o0, a0, c0, e0, hb0, hc0, hI0⟩ := hl 0 (by have := H0.n1; omega)
    subst e0
    rw [← row_at (by have := H0.n1; omega)] at hc0
    simp only [Nat.add_zero] at hc0
    clear hI0
    clear H0 hlb
    have hr5 : (row t 0).length ≤ 5 := HT.out.m5
    have hn1 : 1 ≤ t.length := HT.out.n1
    generalize (row t 0).length = M at *
    subst hn hm
    have C3 := Lib.hid (fun W => f67_c ((l.length : Nat) : Int) ((M : Nat) : Int) W)
    rw [if_neg (by omega)] at C3
    clear h1 h2 h3 h4
    go_enter Try.func24, Try.ntmps24
    go_wp2_with (first | (go_at_call 17; refine C1.out.mono ?_; rintro e w1 ⟨rfl, hE1⟩) | (go_at_call 66; refine (C2.out _ hE1).mono ?_; rintro e w' ⟨rfl, rfl⟩) | (go_at_call 55; refine (f55_r 0 _ _ _ [0, 0] _ (ints_new2 _ _ _ _ _ rfl) rfl (by decide) rfl).mono ?_; rintro e w' ⟨rfl, rfl⟩; have hE2 := hE1.trans' (ext_alloc _ (.cells #[.int .i64 0, .int .i64 0] 25)); have hc2 := (hE2.cell' hb0).trans hc0) | (go_at_call 67; refine (C3.out _).mono ?_; rintro e w' ⟨rfl, rfl⟩))
    go_ret2
    exact retTE_nil hE2
  · rw [show errOf true = 0 from rfl] at C1
    rw [show errOf true = 0 from rfl] at C2
    have C1 := Lib.hid C1
    have C2 := Lib.hid C2
    have hok : colsOk t l = true := by simp only [colsOk, h1, h2, h3]; rfl
    rw [show fitColsV t l = fitC t.length (row t 0).length t l by unfold fitColsV; rw [if_pos hok], hok, show errOf true = 0 from rfl]
    clear hok
    have h4 : l.length = (row t 0).length := by simpa using h3
    have H0 := tabB_ok h1
    have hlb := (massB_ok h2).2.2
    have HT := Lib.hid H0
    have Hlb := Lib.hid hlb
    obtain ⟨b0, o0, a0, c0, e0, hb0, hc0, hI0⟩ := hl 0 (by have := H0.n1; omega)
    subst e0
    rw [← row_at (by have := H0.n1; omega)] at hc0
    simp only [Nat.add_zero] at hc0
    clear hI0
    clear H0 hlb
    have hr5 : (row t 0).length ≤ 5 := HT.out.m5
    have hn1 : 1 ≤ t.length := HT.out.n1
    generalize (row t 0).length = M at *
    subst hn hm
    have C3 := Lib.hid (fun W => f67_c ((l.length : Nat) : Int) ((M : Nat) : Int) W)
    rw [if_pos (by omega)] at C3
    clear h1 h2 h3
    have H4 := Lib.hid h4
    clear h4
    go_enter Try.func24, Try.ntmps24
    go_wp2_with (first | (go_at_call 17; refine C1.out.mono ?_; rintro e w1 ⟨rfl, hE1⟩) | (go_at_call 66; refine (C2.out _ hE1).mono ?_; rintro e w' ⟨rfl, rfl⟩) | (go_at_call 55; refine (f55_r 0 _ _ _ [0, 0] _ (ints_new2 _ _ _ _ _ rfl) rfl (by decide) rfl).mono ?_; rintro e w' ⟨rfl, rfl⟩; have hE2 := hE1.trans' (ext_alloc _ (.cells #[.int .i64 0, .int .i64 0] 25)); have hc2 := (hE2.cell' hb0).trans hc0) | (go_at_call 67; refine (C3.out _).mono ?_; rintro e w' ⟨rfl, rfl⟩))
    rw [H4.out]
    refine (f68_c _ b _ c c2 _ t l _ (hl.ext hE2) HT.out (hb.ext hE2) H4.out Hlb.out).mono ?_
    rintro e w3 ⟨v, rfl, hT, hE3⟩
    obtain ⟨a8, c8, e8, _⟩ := hT.table
    subst e8
    have hR := Lib.hid (retTE_mk (e := 0) hE2 hT hE3)
    clear hT
    go_wp2_with fail
    go_ret2
    exact hR.out
set_option maxHeartbeats 4000000 in
theorem f25_c (a b : Option Addr) (n c m2 c2 : Nat) (t : Tbl) (l : List Int) (w : World) (hl : Table w a t) (hn : t.length = n) (hlen : n ≤ 1000000) (hin : ∀ j, (hj : j < t.length) → t[j].length ≤ 1000000) (hb : Ints w b l) (hm : l.length = m2) (hlen2 : m2 ≤ 1000000) :
    Calls Try.prog 25 #[.slice a n c, .slice b m2 c2] w (RetTE 31 (fitColsV t l) (errOf (colsOk t l)) w) := by
  have C1 := f18_c a n c t w hl hn hlen hin
  have C2 := fun W (h : Ext w W) => f69_c b m2 c2 l W (hb.ext h) hm hlen2
  unfold valT at C1
  unfold valM at C2
  cases h1 : tabB 0 1000000 t
  all_goals cases h2 : massB l
  all_goals cases h3 : decide (l.length = (row t 0).length)
  all_goals rw [h1] at C1
  all_goals rw [h2] at C2
  · rw [show errOf false = 1 from rfl] at C1
    rw [show errOf false = 1 from rfl] at C2
    have C1 := Lib.hid C1
    have C2 := Lib.hid C2
    rw [show fitColsV t l = [] by simp only [fitColsV, colsOk, h1, h2, h3]; rfl, show errOf (colsOk t l) = 1 by simp only [colsOk, h1, h2, h3]; rfl]
    have h4 : ¬ l.length = (row t 0).length := by simpa using h3
    clear h1 h2 h3
    go_enter Try.func25, Try.ntmps25
    go_wp2_with (first | (go_at_call 18; refine C1.out.mono ?_; rintro e w1 ⟨rfl, hE1⟩) | (go_at_call 69; refine (C2.out _ hE1).mono ?_; rintro e w' ⟨rfl, rfl⟩))
    go_ret2
    exact retTE_nil hE1
  · rw [show errOf false = 1 from rfl] at C1
    rw [show errOf false = 1 from rfl] at C2
    have C1 := Lib.hid C1
    have C2 := Lib.hid C2
    rw [show fitColsV t l = [] by simp only [fitColsV, colsOk, h1, h2, h3]; rfl, show errOf (colsOk t l) = 1 by simp only [colsOk, h1, h2, h3]; rfl]
    have h4 : l.length = (row t 0).length := by simpa using h3
    clear h1 h2 h3
    go_enter Try.func25, Try.ntmps25
    go_wp2_with (first | (go_at_call 18; refine C1.out.mono ?_; rintro e w1 ⟨rfl, hE1⟩) | (go_at_call 69; refine (C2.out _ hE1).mono ?_; rintro e w' ⟨rfl, rfl⟩))
    go_ret2
    exact retTE_nil hE1
  · rw [show errOf false = 1 from rfl] at C1
    rw [show errOf true = 0 from rfl] at C2
    have C1 := Lib.hid C1
    have C2 := Lib.hid C2
    rw [show fitColsV t l = [] by simp only [fitColsV, colsOk, h1, h2, h3]; rfl, show errOf (colsOk t l) = 1 by simp only [colsOk, h1, h2, h3]; rfl]
    have h4 : ¬ l.length = (row t 0).length := by simpa using h3
    clear h1 h2 h3
    go_enter Try.func25, Try.ntmps25
    go_wp2_with (first | (go_at_call 18; refine C1.out.mono ?_; rintro e w1 ⟨rfl, hE1⟩) | (go_at_call 69; refine (C2.out _ hE1).mono ?_; rintro e w' ⟨rfl, rfl⟩))
    go_ret2
    exact retTE_nil hE1
  · rw [show errOf false = 1 from rfl] at C1
    rw [show errOf true = 0 from rfl] at C2
    have C1 := Lib.hid C1
    have C2 := Lib.hid C2
    rw [show fitColsV t l = [] by simp only [fitColsV, colsOk, h1, h2, h3]; rfl, show errOf (colsOk t l) = 1 by simp only [colsOk, h1, h2, h3]; rfl]
    have h4 : l.length = (row t 0).length := by simpa using h3
    clear h1 h2 h3
    go_enter Try.func25, Try.ntmps25
    go_wp2_with (first | (go_at_call 18; refine C1.out.mono ?_; rintro e w1 ⟨rfl, hE1⟩) | (go_at_call 69; refine (C2.out _ hE1).mono ?_; rintro e w' ⟨rfl, rfl⟩))
    go_ret2
    exact retTE_nil hE1
  · rw [show errOf true = 0 from rfl] at C1
    rw [show errOf false = 1 from rfl] at C2
    have C1 := Lib.hid C1
    have C2 := Lib.hid C2
    rw [show fitColsV t l = [] by simp only [fitColsV, colsOk, h1, h2, h3]; rfl, show errOf (colsOk t l) = 1 by simp only [colsOk, h1, h2, h3]; rfl]
    have h4 : ¬ l.length = (row t 0).length := by simpa using h3
    clear h1 h2 h3
    go_enter Try.func25, Try.ntmps25
    go_wp2_with (first | (go_at_call 18; refine C1.out.mono ?_; rintro e w1 ⟨rfl, hE1⟩) | (go_at_call 69; refine (C2.out _ hE1).mono ?_; rintro e w' ⟨rfl, rfl⟩))
    go_ret2
    exact retTE_nil hE1
  · rw [show errOf true = 0 from rfl] at C1
    rw [show errOf false = 1 from rfl] at C2
    have C1 := Lib.hid C1
    have C2 := Lib.hid C2
    rw [show fitColsV t l = [] by simp only [fitColsV, colsOk, h1, h2, h3]; rfl, show errOf (colsOk t l) = 1 by simp only [colsOk, h1, h2, h3]; rfl]
    have h4 : l.length = (row t 0).length := by simpa using h3
    clear h1 h2 h3
    go_enter Try.func25, Try.ntmps25
    go_wp2_with (first | (go_at_call 18; refine C1.out.mono ?_; rintro e w1 ⟨rfl, hE1⟩) | (go_at_call 69; refine (C2.out _ hE1).mono ?_; rintro e w' ⟨rfl, rfl⟩))
    go_ret2
    exact retTE_nil hE1
  · rw [show errOf true = 0 from rfl] at C1
    rw [show errOf true = 0 from rfl] at C2
    have C1 := Lib.hid C1
    have C2 := Lib.hid C2
    rw [show fitColsV t l = [] by simp only [fitColsV, colsOk, h1, h2, h3]; rfl, show errOf (colsOk t l) = 1 by simp only [colsOk, h1, h2, h3]; rfl]
    have h4 : ¬ l.length = (row t 0).length := by simpa using h3
    have H0 := tabB_ok h1
    have hlb := (massB_ok h2).2.2
    have HT := Lib.hid H0
    have Hlb := Lib.hid hlb
    obtain ⟨b0, o0, a0, c0, e0, hb0, hc0, hI0⟩ := hl 0 (by have := H0.n1; omega)
    subst e0
    rw [← row_at (by have := H0.n1; omega)] at hc0
    simp only [Nat.add_zero] at hc0
    clear hI0
    clear H0 hlb
    have hr5 : (row t 0).length ≤ 5 := HT.out.m5
    have hn1 : 1 ≤ t.length := HT.out.n1
    generalize (row t 0).length = M at *
    subst hn hm
    have d3 : (((M : Nat) : Int) != ((l.length : Nat) : Int)) = true := by simp; omega
    clear h1 h2 h3 h4
    go_enter Try.func25, Try.ntmps25
    go_wp2_with (first | (go_at_call 18; refine C1.out.mono ?_; rintro e w1 ⟨rfl, hE1⟩; have hc2 := (hE1.cell' hb0).trans hc0) | (go_at_call 69; refine (C2.out _ hE1).mono ?_; rintro e w' ⟨rfl, rfl⟩))
    go_ret2
    exact retTE_nil hE1
  · rw [show errOf true = 0 from rfl] at C1
    rw [show errOf true = 0 from rfl] at C2
    have C1 := Lib.hid C1
    have C2 := Lib.hid C2
    have hok : colsOk t l = true := by simp only [colsOk, h1, h2, h3]; rfl
    rw [show fitColsV t l = fitC t.length (row t 0).length t l by unfold fitColsV; rw [if_pos hok], hok, show errOf true = 0 from rfl]
    clear hok
    have h4 : l.length = (row t 0).length := by simpa using h3
    have H0 := tabB_ok h1
    have hlb := (massB_ok h2).2.2
    have HT := Lib.hid H0
    have Hlb := Lib.hid hlb
    obtain ⟨b0, o0, a0, c0, e0, hb0, hc0, hI0⟩ := hl 0 (by have := H0.n1; omega)
    subst e0
    rw [← row_at (by have := H0.n1; omega)] at hc0
    simp only [Nat.add_zero] at hc0
    clear hI0
    clear H0 hlb
    have hr5 : (row t 0).length ≤ 5 := HT.out.m5
    have hn1 : 1 ≤ t.length := HT.out.n1
    generalize (row t 0).length = M at *
    subst hn hm
    have d3 : (((M : Nat) : Int) != ((l.length : Nat) : Int)) = false := by simp; omega
    clear h1 h2 h3
    have H4 := Lib.hid h4
    clear h4
    go_enter Try.func25, Try.ntmps25
    go_wp2_with (first | (go_at_call 18; refine C1.out.mono ?_; rintro e w1 ⟨rfl, hE1⟩; have hc2 := (hE1.cell' hb0).trans hc0) | (go_at_call 69; refine (C2.out _ hE1).mono ?_; rintro e w' ⟨rfl, rfl⟩))
    rw [H4.out]
    refine (f71_c _ _ c M t _ (hl.ext hE1) rfl HT.out.n1 HT.out.n5 HT.out.m5 HT.out.cols).mono ?_
    rintro e w3 ⟨v, rfl, hT, hE3⟩
    obtain ⟨a3, c3, rfl, hT3⟩ := hT.table
    rw [show (turnT t.length M t).length = M from mk_len _ _ _]
    have hE13 := hE1.trans' hE3
    have hT4 := turn_ok HT.out
    clear hT
    have Cf := Lib.hid (f70_c a3 b M c3 c2 t.length (turnT t.length M t) l w3 hT3 hT4 (hb.ext hE13) H4.out Hlb.out)
    go_wp2_with fail
    refine Cf.out.mono ?_
    rintro e w5 ⟨v, rfl, hT, hE5⟩
    obtain ⟨a5, c5, rfl, hT5⟩ := hT.table
    rw [show (fitR M t.length (turnT t.length M t) l).length = M from mk_len _ _ _]
    have hE15 := hE13.trans' hE5
    clear hT
    have Cg := Lib.hid (f71_c a5 M c5 t.length (fitR M t.length (turnT t.length M t) l) w5 hT5 (mk_len _ _ _) HT.out.m1 HT.out.m5 HT.out.n5 (fun i hi => mk_cols _ hi))
    rw [turn_fit HT.out] at Cg
    go_wp2_with fail
    refine Cg.out.mono ?_
    rintro e w7 ⟨v, rfl, hT, hE3⟩
    obtain ⟨a8, c8, e8, _⟩ := hT.table
    subst e8
    have hR := Lib.hid (retTE_mk (e := 0) hE15 hT hE3)
    clear hT
    go_wp2_with fail
    go_ret2
    exact hR.out
end Go.Proofs.Ytaidoaggmllcfaa
