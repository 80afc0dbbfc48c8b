/- Texts of transport, taken over from the seat of layer 6: T29. -/
import Derived.Deep.Cut
import Derived.Test.YtfhgnmijigdlmaaTr2
namespace Go.Proofs.Ytfhgnmijigdlmaa.Tr
open Go.RowKit
attribute [local go_sem] GW.cell
/- Contracts of ship: the empty plan, what a plan leaves. -/

/-- the first k rows are made -/
def emptyTo (n m k : Nat) : Tbl := (List.range n).map fun i => if i < k then List.replicate m 0 else []
theorem emptyTo_len (n m k : Nat) : (emptyTo n m k).length = n := by simp [emptyTo]
theorem row_emptyTo {n m k i : Nat} (h : i < n) : row (emptyTo n m k) i = if i < k then List.replicate m 0 else [] := by simp [row, emptyTo, h]
theorem emptyTo_set {n m k : Nat} : (emptyTo n m k).set k (List.replicate m 0) = emptyTo n m (k + 1) := by
  apply List.ext_getElem (by simp [emptyTo])
  intro j h1 h2
  rw [List.getElem_set]
  simp only [emptyTo, List.getElem_map, List.getElem_range]
  by_cases e : k = j
  · subst e; rw [if_pos rfl, if_pos (by omega)]
  · rw [if_neg e]
    by_cases h : j < k
    · rw [if_pos h, if_pos (by omega)]
    · rw [if_neg h, if_neg (by omega)]
def emptyT (n m : Nat) : Tbl := emptyTo n m n
theorem emptyT_shape (n m : Nat) : ShapeT n m (emptyT n m) := ⟨emptyTo_len _ _ _, fun i hi => by unfold emptyT; rw [row_emptyTo hi, if_pos hi]; simp⟩
theorem tg_emptyT (n m i j : Nat) : tg (emptyT n m) i j = 0 := by
  unfold tg
  by_cases h : i < n
  · unfold emptyT; rw [row_emptyTo h, if_pos h]; unfold gi; rw [List.getElem?_replicate]; split <;> rfl
  · have : row (emptyT n m) i = [] := by unfold row; rw [List.getElem?_eq_none (by rw [show (emptyT n m).length = n from emptyTo_len _ _ _]; omega)]; rfl
    rw [this]; rfl
/-- a table of nothing but empty rows lies -/
theorem own_start {W : World} {B n m : Nat} (h : W.ownsRow B 31 1 (.slice (some ⟨B, 0, none⟩) n n) n (List.replicate n (.slice none 0 0))) (hB : B < W.heap.size) : OwnT 31 W B W.heap.size (.slice (some ⟨B, 0, none⟩) n n) (emptyTo n m 0) := by
  have hr : ∀ i, i < n → row (emptyTo n m 0) i = [] := fun i hi => by rw [row_emptyTo hi, if_neg (by omega)]
  refine ⟨fun _ => none, fun _ => 0, fun _ => 0, fun _ => 0, Nat.le_refl _, ?_, fun g hg => ?_, fun i hi h0 => ?_, fun i k hi hk hne h0 => ?_⟩
  · have : rv (emptyTo n m 0) (fun _ => none) (fun _ => 0) = List.replicate n (.slice none 0 0) := by
      apply List.ext_getElem (by simp [rv, emptyTo])
      intro i h1 h2
      simp only [rv, List.length_map, List.length_range, emptyTo_len] at h1
      simp only [rv, List.getElem_map, List.getElem_range, List.getElem_replicate]
      rw [hr i h1]; rfl
    rw [this, emptyTo_len]; exact h
  · simp only [Value.ownBlock, Option.some.injEq] at hg
    omega
  · rw [emptyTo_len] at hi
    rw [hr i hi] at h0; simp at h0
  · rw [emptyTo_len] at hi
    rw [hr i hi] at h0; simp at h0
theorem own_makeRow {W X : World} {B U g m n : Nat} {t : Tbl} (h : OwnT 31 W B U (.slice (some ⟨B, 0, none⟩) n n) t) (hE : Ext W X) {i : Nat} (hi : i < t.length) (hg : OwnG X 3 W.heap.size g m m (List.replicate m 0)) :
    OwnT 31 (X.setCell ⟨B, i, none⟩ (.slice (some ⟨g, 0, none⟩) m m)) B X.heap.size (.slice (some ⟨B, 0, none⟩) n n) (t.set i (List.replicate m 0)) := by
  obtain ⟨A, C, G, O, h⟩ := h
  have h2 := (h.ext hE).up (U' := X.heap.size) (Nat.le_trans h.upto hE.size) (Nat.le_refl _)
  have hs := hg.slot
  have hup := h.upto
  have hB : B < U := h.blk B rfl
  have := h2.setRow (l := List.replicate m 0) (a := some ⟨g, 0, none⟩) (c := m) (g0 := g) (o0 := 0) hi rfl (fun _ => ⟨rfl, by omega, hs.1, by simp only [Value.ownBlock]; intro e; injection e with e; omega, fun j hj => ⟨by rw [Nat.zero_add]; exact hg.cell hj, by rw [Nat.zero_add]; exact hg.froz j⟩⟩) (fun k hk hne _ h0 => .inl (by
    obtain ⟨_, _, h5, _⟩ := h.rows k hk h0
    omega))
  simp only [List.length_replicate] at this
  exact ⟨_, _, _, _, this⟩
set_option maxRecDepth 20000 in
set_option maxHeartbeats 4000000 in
theorem f120_c (a b : Option Addr) (n c m d : Nat) (w : World) (hn1 : 1 ≤ n) (hn5 : n ≤ 5) (hm1 : 1 ≤ m) (hm5 : m ≤ 5) :
    Calls Try.prog 120 #[.slice a n c, .slice b m d] w (RetT 31 (emptyT n m) w) := by
  obtain ⟨i0, hi0⟩ := infoI
  have Hi := Lib.hid hi0
  clear hi0
  obtain ⟨i1, hi1⟩ := infoS
  have Hj := Lib.hid hi1
  clear hi1
  go_enter Try.func120, Try.ntmps120
  go_wp2_with (at_make; refine wpList_make_full _ rfl (.tmp 8) (.tmp 8) 66 rfl w.heap.size 31 i1 (.slice none 0 0) 1 Try.underlying66 Hj.out.1 Hj.out.2.1 Hj.out.2.2.1 .i64 .i64 n n n rfl rfl rfl rfl (by rw [Hj.out.2.2.2]; omega) (by unfold maxLen; omega) (Nat.le_refl _) ?_; intro w1 hrow hgrow; have hE1 := (Below.refl _ w).grown hgrow (Nat.le_refl _) (by simp); rw [show (Value.slice none 0 0).cells = #[.slice none 0 0] from rfl, made_one] at hrow; have Hrow := Lib.hid hrow; clear hrow hgrow)
  have hsz : w.heap.size < w1.heap.size := by
    obtain ⟨g, cap, e, _, h⟩ := ownsRow_form Hrow.out hn1
    injection e with e; injection e with e; injection e with e; omega
  have HT : Hid (OwnT 31 w1 w.heap.size w1.heap.size (.slice (some ⟨w.heap.size, 0, none⟩) n n) (emptyTo n m 0)) := Lib.hid (own_start Hrow.out hsz)
  clear Hrow
  go_loopw [12] (fun i wr => ∃ k : Nat, k ≤ n ∧ i = .int .i64 k ∧ Ext w wr ∧ w.heap.size < wr.heap.size ∧ Hid (OwnT 31 wr w.heap.size wr.heap.size (.slice (some ⟨w.heap.size, 0, none⟩) n n) (emptyTo n m k))) (fun i _ => n - (intOf i).toNat)
  case atStart => exact ⟨0, Nat.zero_le _, rfl, hE1, hsz, HT⟩
  case round =>
    obtain ⟨k, hk, rfl, hE, hszr, HT⟩ := hrel
    by_cases hlt : k < n
    · obtain ⟨wo, rfl⟩ : ∃ wo : World, wo = wr := ⟨_, rfl⟩
      have HC : Hid (∃ u, wo.cell? ⟨w.heap.size, k, none⟩ = some u) := Lib.hid (by obtain ⟨A, C, G, O, h⟩ := HT.out; exact ⟨_, row_cell h.own (rv_at (by rw [emptyTo_len]; exact hlt))⟩)
      have HF : Hid (wo.frozen? ⟨w.heap.size, k, none⟩ = false) := Lib.hid (by obtain ⟨A, C, G, O, h⟩ := HT.out; have h2 := h.own; rw [emptyTo_len] at h2; exact World.ownsRow.frozenAt h2 k)
      go_wp2_with (at_make; refine wpList_make_full _ rfl (.tmp 18) (.tmp 18) 31 rfl wo.heap.size 3 i0 (.int .i64 0) 1 Try.underlying31 Hi.out.1 Hi.out.2.1 Hi.out.2.2.1 .i64 .i64 m m m rfl rfl rfl rfl (by rw [Hi.out.2.2.2]; omega) (by unfold maxLen; omega) (Nat.le_refl _) ?_; intro w2 hrow hgrow; have hE2 : Ext wo w2 := (Below.refl _ wo).grown hgrow (Nat.le_refl _) (by simp); have hsz2 := hE2.size; rw [show (Value.int IntKind.i64 0).cells = #[.int .i64 0] from rfl, made_one, ← List.map_replicate] at hrow; have HN := Lib.hid (own_makeRow HT.out hE2 (i := k) (by rw [emptyTo_len]; exact hlt) hrow); obtain ⟨u0, hu0⟩ := HC.out; have htop := (hE2.cell' (show w.heap.size < wo.heap.size by omega)).trans hu0; have hfz := (hE2.frozen (p := ⟨w.heap.size, k, none⟩) (show w.heap.size < wo.heap.size by omega)).trans HF.out; have hzz : w.heap.size < w2.heap.size := (by omega); clear hu0; clear hrow hgrow)
      rw [emptyTo_set] at HN
      go_roundw
      case rel => exact ⟨k + 1, by omega, by go_num, (hE.trans' hE2).setCell (Nat.le_refl _) _, by simp; omega, by simpa using HN⟩
      case measure => simp [intOf]; omega
    · obtain rfl : k = n := by omega
      have HR : Hid (RetT 31 (emptyT k m) w (.returned (.slice (some ⟨w.heap.size, 0, none⟩) k k)) wr) := Lib.hid ⟨_, rfl, HT.out, hE⟩
      go_wp2_with fail
      go_ret
      exact HR.out
/-- what is left of the rows, of the columns, after k rows of the plan and q places of the next one -/
def leftRt (a : List Int) (P : Tbl) (m k q : Nat) : List Int := (List.range a.length).map fun i => gi a i - (if i < k then sumN (tg P i) m else if i = k then sumN (tg P i) q else 0)
def leftCt (b : List Int) (P : Tbl) (k q : Nat) : List Int := (List.range b.length).map fun j => gi b j - sumN (fun i => tg P i j) (if j < q then k + 1 else k)
theorem leftRt_zero (a : List Int) (P : Tbl) (m : Nat) : leftRt a P m 0 0 = a := by
  apply List.ext_getElem (by simp [leftRt])
  intro i h1 h2
  simp only [leftRt, List.getElem_map, List.getElem_range]
  rw [gi_get h2, if_neg (by omega)]
  split <;> simp [sumN]
theorem leftCt_zero (b : List Int) (P : Tbl) : leftCt b P 0 0 = b := by
  apply List.ext_getElem (by simp [leftCt])
  intro i h1 h2
  simp only [leftCt, List.getElem_map, List.getElem_range]
  rw [gi_get h2, if_neg (by omega)]
  simp [sumN]
theorem leftRt_len (a : List Int) (P : Tbl) (m k q : Nat) : (leftRt a P m k q).length = a.length := by simp [leftRt]
theorem leftCt_len (b : List Int) (P : Tbl) (k q : Nat) : (leftCt b P k q).length = b.length := by simp [leftCt]
theorem gi_leftRt {a : List Int} {P : Tbl} {m k q : Nat} (h : k < a.length) : gi (leftRt a P m k q) k = gi a k - sumN (tg P k) q := by
  rw [gi_get (by rw [leftRt_len]; exact h)]
  simp only [leftRt, List.getElem_map, List.getElem_range]
  rw [if_neg (by omega), if_pos trivial]
theorem gi_leftCt {b : List Int} {P : Tbl} {k q : Nat} (h : q < b.length) : gi (leftCt b P k q) q = gi b q - sumN (fun i => tg P i q) k := by
  rw [gi_get (by rw [leftCt_len]; exact h)]
  simp only [leftCt, List.getElem_map, List.getElem_range]
  rw [if_neg (by omega)]
theorem leftRt_set {a : List Int} {P : Tbl} {m k q : Nat} : (leftRt a P m k q).set k (gi a k - sumN (tg P k) q - tg P k q) = leftRt a P m k (q + 1) := by
  apply List.ext_getElem (by simp [leftRt])
  intro i h1 h2
  rw [List.getElem_set]
  simp only [leftRt, List.getElem_map, List.getElem_range]
  by_cases e : k = i
  · subst e; rw [if_pos rfl, if_neg (by omega), if_pos rfl]; simp only [sumN]; omega
  · rw [if_neg e]
    by_cases h : i < k
    · rw [if_pos h, if_pos h]
    · rw [if_neg h, if_neg h, if_neg (fun h => e h.symm), if_neg (fun h => e h.symm)]
theorem leftCt_set {b : List Int} {P : Tbl} {k q : Nat} : (leftCt b P k q).set q (gi b q - sumN (fun i => tg P i q) k - tg P k q) = leftCt b P k (q + 1) := by
  apply List.ext_getElem (by simp [leftCt])
  intro i h1 h2
  rw [List.getElem_set]
  simp only [leftCt, List.getElem_map, List.getElem_range]
  by_cases e : q = i
  · subst e; rw [if_pos rfl, if_pos (by omega)]; simp only [sumN]; omega
  · rw [if_neg e]
    by_cases h : i < q
    · rw [if_pos h, if_pos (by omega)]
    · rw [if_neg h, if_neg (by omega)]
theorem leftRt_row (a : List Int) (P : Tbl) (m k : Nat) : leftRt a P m k m = leftRt a P m (k + 1) 0 := by
  unfold leftRt
  apply List.map_congr_left
  intro i _
  by_cases h : i < k
  · rw [if_pos h, if_pos (by omega)]
  · rw [if_neg h]
    by_cases e : i = k
    · rw [if_pos e, if_pos (by omega)]
    · rw [if_neg e, if_neg (by omega)]
      split <;> simp [sumN]
theorem leftCt_row {b : List Int} {P : Tbl} {m k : Nat} (h : b.length = m) : leftCt b P k m = leftCt b P (k + 1) 0 := by
  unfold leftCt
  apply List.map_congr_left
  intro i hi
  rw [List.mem_range] at hi
  rw [if_pos (by omega), if_neg (by omega)]
theorem leftRt_all {a : List Int} {P : Tbl} {m n : Nat} (h : a.length = n) : leftRt a P m n 0 = leftR a P m := by
  unfold leftRt leftR
  apply List.map_congr_left
  intro i hi
  rw [List.mem_range] at hi
  rw [if_pos (by omega)]
theorem leftCt_all (b : List Int) (P : Tbl) (n : Nat) : leftCt b P n 0 = leftC b P n := by
  unfold leftCt leftC
  apply List.map_congr_left
  intro i _
  rw [if_neg (by omega)]
theorem sumN_bd {f : Nat → Int} {K : Int} (h : ∀ i, -K ≤ f i ∧ f i ≤ K) : ∀ n : Nat, -((n : Int) * K) ≤ sumN f n ∧ sumN f n ≤ n * K
  | 0 => by simp [sumN]
  | n + 1 => by
    have h1 := sumN_bd h n
    have h2 := h n
    have e : ((n + 1 : Nat) : Int) * K = n * K + K := by rw [show ((n + 1 : Nat) : Int) = (n : Int) + 1 by omega, Int.add_mul, Int.one_mul]
    simp only [sumN]; omega
/-- what left hands back -/
def RetLeft (a b : List Int) (P : Tbl) (n m : Nat) (w : World) (e : Ending) (w' : World) : Prop :=
  ∃ gR cR gC cC, e = .returned (.tuple #[.slice (some ⟨gR, 0, none⟩) n cR, .slice (some ⟨gC, 0, none⟩) m cC]) ∧ OwnG w' 3 w.heap.size gR n cR (leftR a P m) ∧ OwnG w' 3 w.heap.size gC m cC (leftC b P n) ∧ gR ≠ gC ∧ Ext w w'
set_option maxRecDepth 20000 in
set_option maxHeartbeats 8000000 in
theorem f131_c (ax bx pa : Option Addr) (n m ca cb cp : Nat) (a b : List Int) (P : Tbl) (w : World) (ha : Ints w ax a) (hb : Ints w bx b) (hp : Table w pa P) (hal : a.length = n) (hbl : b.length = m) (hn1 : 1 ≤ n) (hn5 : n ≤ 5) (hm1 : 1 ≤ m) (hm5 : m ≤ 5)
    (hP : ShapeT n m P) (hba : ∀ i, -1000 ≤ gi a i ∧ gi a i ≤ 1000) (hbb : ∀ i, -1000 ≤ gi b i ∧ gi b i ≤ 1000) (hbP : ∀ i j, -1000 ≤ tg P i j ∧ tg P i j ≤ 1000) :
    Calls Try.prog 131 #[.slice ax n ca, .slice bx m cb, .slice pa n cp] w (RetLeft a b P n m w) := by
  obtain ⟨i0, hi0⟩ := infoI
  have Hi := Lib.hid hi0
  clear hi0
  obtain ⟨b1, o1, rfl, -, -⟩ := ha 0 (by omega)
  obtain ⟨b2, o2, rfl, -, -⟩ := hb 0 (by omega)
  obtain ⟨b3, o3, a3, c3, rfl, hb3, hc3, -⟩ := hp 0 (by have := hP.1; omega)
  have Hra := Lib.hid (reads_ints ha)
  have HP := Lib.hid hP
  have HPl := Lib.hid hP.1
  have Hal := Lib.hid hal
  have Hbl := Lib.hid hbl
  have HB1 := Lib.hid hba
  have HB2 := Lib.hid hbb
  have HB3 := Lib.hid hbP
  have Hb := Lib.hid hb
  rw [hal] at Hra
  clear hP hal hbl hba hbb hbP hb hc3
  go_enter Try.func131, Try.ntmps131
  go_upto_region 2 with (at_builtin; refine wpList_append_any _ rfl (.tmp 12) (.tmp 13) 31 rfl w.heap.size 3 i0 (.int .i64 0) 1 8 Try.underlying31 Hi.out.1 Hi.out.2.1 Hi.out.2.2.1 Hi.out.2.2.2 rfl (by omega) (.slice none 0 0) 0 [] rfl (World.ownsRow_nil _ _ _ _) _ (some ⟨b1, o1, none⟩) n ca (a.map (.int .i64)) rfl Hra.out ints_one (by unfold maxLen; omega) (by omega) (by simp) ?_; intro v1 w1 hown hgrow hat; have hE1 : Ext w w1 := (Below.refl _ w).grown hgrow (Nat.le_refl _) (by simp [Value.ownBlock]); rw [Nat.zero_add, List.nil_append] at hown; obtain ⟨g8, c8, rfl, hg8, hg9⟩ := ownsRow_form hown hn1; have HR := Lib.hid (show OwnG w1 3 w.heap.size g8 n c8 a from hown); have Hrb := Lib.hid (reads_ints (Hb.out.ext hE1)); clear hown hgrow hat)
  rw [Hbl.out] at Hrb
  clear Hra Hb
  go_upto_region 3 with (at_builtin; refine wpList_append_any _ rfl (.tmp 15) (.tmp 16) 31 rfl w1.heap.size 3 i0 (.int .i64 0) 1 8 Try.underlying31 Hi.out.1 Hi.out.2.1 Hi.out.2.2.1 Hi.out.2.2.2 rfl (by omega) (.slice none 0 0) 0 [] rfl (World.ownsRow_nil _ _ _ _) _ (some ⟨b2, o2, none⟩) m cb (b.map (.int .i64)) rfl Hrb.out ints_one (by unfold maxLen; omega) (by omega) (by simp) ?_; intro v2 w2 hown hgrow hat; have hE12 : Ext w1 w2 := (Below.refl _ w1).grown hgrow (Nat.le_refl _) (by simp [Value.ownBlock]); rw [Nat.zero_add, List.nil_append] at hown; obtain ⟨g9, c9, rfl, hg10, hg11⟩ := ownsRow_form hown hm1; have HC := Lib.hid (show OwnG w2 3 w1.heap.size g9 m c9 b from hown); clear hown hgrow hat)
  have hE2 := hE1.trans' hE12
  have HR2 := Lib.hid (HR.out.ext hE12)
  have hne : g8 ≠ g9 := by omega
  have HC2 := Lib.hid (HC.out.base hE1.size)
  have hpn : P.length ≤ n ∧ n ≤ P.length := by have := HPl.out; omega
  clear HR HC Hrb hE12 hg8 hg9 hg10 hg11 hE1
  go_wp2_with fail
  go_loopw [8, 9, 10, 11, 20] (fun _ _ _ _ i wr => ∃ k : Nat, k ≤ n ∧ i = .int .i64 k ∧ Ext w wr ∧ Hid (OwnG wr 3 w.heap.size g8 n c8 (leftRt a P m k 0)) ∧ Hid (OwnG wr 3 w.heap.size g9 m c9 (leftCt b P k 0))) (fun _ _ _ _ i _ => n - (intOf i).toNat)
  case atStart => exact ⟨0, Nat.zero_le _, rfl, hE2, by rw [leftRt_zero]; exact HR2, by rw [leftCt_zero]; exact HC2⟩
  case round =>
    obtain ⟨k, hk, rfl, hE, HR, HC⟩ := hrel
    by_cases hlt : k < n
    · obtain ⟨b4, o4, a4, c4, e4, hb4, hcw, hIw⟩ := hp k (by omega)
      simp only [Option.some.injEq, Addr.mk.injEq, and_true] at e4
      obtain ⟨rfl, rfl⟩ := e4
      have hc4 := (hE.cell' hb4).trans hcw
      have hmk := HP.out.2 k hlt
      rw [row_at (by omega)] at hmk
      rw [hmk] at hc4
      have Hm := Lib.hid hmk
      clear hcw hmk
      go_wp2_with fail
      go_loopw [10, 11, 27] (fun _ _ i wr => ∃ q : Nat, q ≤ m ∧ i = .int .i64 q ∧ Ext w wr ∧ Hid (OwnG wr 3 w.heap.size g8 n c8 (leftRt a P m k q)) ∧ Hid (OwnG wr 3 w.heap.size g9 m c9 (leftCt b P k q))) (fun _ _ i _ => m - (intOf i).toNat)
      case atStart => exact ⟨0, Nat.zero_le _, rfl, hE, HR, HC⟩
      case round =>
        obtain ⟨q, hq, rfl, hE3, HR, HC⟩ := hrel
        by_cases hlq : q < m
        · obtain ⟨b5, o5, rfl, hb5, hc5⟩ := hIw.ext hE3 q (by have := Hm.out; omega)
          rw [← gi_at, ← row_at (by omega)] at hc5
          have hx := HB3.out k q
          unfold tg at hx
          have r1 := HR.out.cell (i := k) (by rw [leftRt_len, Hal.out]; exact hlt)
          rw [← gi_at, gi_leftRt (by rw [Hal.out]; exact hlt)] at r1
          have r2 := HR.out.froz k
          have r3 := HR.out.slot
          have s1 := HC.out.cell (i := q) (by rw [leftCt_len, Hbl.out]; exact hlq)
          rw [← gi_at, gi_leftCt (by rw [Hbl.out]; exact hlq)] at s1
          have s2 := HC.out.froz q
          have s3 := HC.out.slot
          have y1 := HB1.out k
          have y2 := sumN_bd (K := 1000) (fun i => HB3.out k i) q
          have y3 := HB2.out q
          have y4 := sumN_bd (K := 1000) (fun i => HB3.out i q) k
          have hu : -6000 ≤ gi a k - sumN (tg P k) q ∧ gi a k - sumN (tg P k) q ≤ 6000 := by omega
          have hv : -6000 ≤ gi b q - sumN (fun i => tg P i q) k ∧ gi b q - sumN (fun i => tg P i q) k ≤ 6000 := by omega
          have HR2 := (HR.out.store k (gi a k - sumN (tg P k) q - tg P k q)).other (g' := g9) (by omega) q (.int .i64 (gi b q - sumN (fun i => tg P i q) k - tg P k q))
          have HC2 := (HC.out.other (g' := g8) (by omega) k (.int .i64 (gi a k - sumN (tg P k) q - tg P k q))).store q (gi b q - sumN (fun i => tg P i q) k - tg P k q)
          rw [leftRt_set] at HR2
          rw [leftCt_set] at HC2
          have s4 := (HC.out.other (g' := g8) (by omega) k (.int .i64 (gi a k - sumN (tg P k) q - tg P k q))).cell (i := q) (by rw [leftCt_len, Hbl.out]; exact hlq)
          rw [← gi_at, gi_leftCt (by rw [Hbl.out]; exact hlq)] at s4
          have s5 := (HC.out.other (g' := g8) (by omega) k (.int .i64 (gi a k - sumN (tg P k) q - tg P k q))).froz q
          have hE4 : Ext w _ := (hE3.setCell (p := ⟨g8, k, none⟩) r3.2.2 (.int .i64 (gi a k - sumN (tg P k) q - tg P k q))).setCell (p := ⟨g9, q, none⟩) s3.2.2 (.int .i64 (gi b q - sumN (fun i => tg P i q) k - tg P k q))
          have HR2 := Lib.hid HR2
          have HC2 := Lib.hid HC2
          rw [show gi (row P k) q = tg P k q from rfl] at hc5 hx
          clear y1 y2 y3 y4 s1 s2
          generalize tg P k q = x at *
          generalize gi a k - sumN (tg P k) q = u at *
          generalize gi b q - sumN (fun i => tg P i q) k = v at *
          go_wp2_with fail
          go_roundw
          case rel => exact ⟨q + 1, by omega, by go_num, hE4, HR2, HC2⟩
          case measure => simp [intOf]; omega
        · obtain rfl : q = m := by omega
          rw [leftRt_row] at HR
          rw [leftCt_row Hbl.out] at HC
          go_wp2_with fail
          go_roundw
          case rel => exact ⟨k + 1, by omega, by go_num, hE3, HR, HC⟩
          case measure => simp [intOf]; omega
    · obtain rfl : k = n := by omega
      rw [leftRt_all Hal.out] at HR
      rw [leftCt_all] at HC
      have Hf := Lib.hid (show RetLeft a b P k m w (.returned (.tuple #[.slice (some ⟨g8, 0, none⟩) k c8, .slice (some ⟨g9, 0, none⟩) m c9])) wr from ⟨g8, c8, g9, c9, rfl, HR.out, HC.out, hne, hE⟩)
      go_wp2_with fail
      go_ret2
      exact Hf.out

end Go.Proofs.Ytfhgnmijigdlmaa.Tr
