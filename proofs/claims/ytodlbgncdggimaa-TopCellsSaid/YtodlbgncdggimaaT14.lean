/- Raise, of the program and of the reference. -/
import Derived.Test.YtodlbgncdggimaaT13
namespace Go.Proofs.Ytodlbgncdggimaa
open Go.RowKit
attribute [local go_sem] GW.cell

def upw (s : Site) (by_ : Int) : Site := ⟨s.x, s.y, s.w + by_⟩
def okBy (s : Site) (by_ : Int) : Bool := withinB by_ (-40000) 40000 && withinB (s.w + by_) (-20000) 20000
def okRaise (l : List Site) (i by_ : Int) : Bool := okSites l && (isNo l i && okBy (l[i.toNat]?.getD default) by_)
def raiseErr (l : List Site) (i by_ : Int) : Int := if okSites l then (if isNo l i then (if okBy (l[i.toNat]?.getD default) by_ then 0 else 1) else 4) else 1
def raised (l : List Site) (i by_ : Int) : List Site := if okRaise l i by_ then l.set i.toNat (upw (l[i.toNat]?.getD default) by_) else []

/-- what a call hands back that makes sites and an error -/
def RetSites (L : List Site) (err : Int) (w : World) (e : Ending) (w' : World) : Prop :=
  ∃ v, e = .returned (.tuple #[v, .int .i64 err]) ∧ w'.ownsRow w.heap.size 31 3 v L.length (sitesV L) ∧ Ext w w'

theorem retS_nil {w w' : World} {e : Int} (hE : Ext w w') : RetSites [] e w (.returned (.tuple #[.slice none 0 0, .int .i64 e])) w' :=
  ⟨_, rfl, World.ownsRow_nil _ _ _ _, hE⟩
theorem rb_bad {l : List Site} {i y : Int} (h : okSites l = false) : raised l i y = [] ∧ raiseErr l i y = 1 := by simp [raised, okRaise, raiseErr, h]
theorem rb_no {l : List Site} {i y : Int} (h : okSites l = true) (h2 : isNo l i = false) : raised l i y = [] ∧ raiseErr l i y = 4 := by simp [raised, okRaise, raiseErr, h, h2]
theorem rb_far {l : List Site} {k : Nat} {y : Int} (h : okSites l = true) (hk : k < l.length) (h3 : okBy l[k] y = false) : raised l k y = [] ∧ raiseErr l k y = 1 := by
  have h2 : isNo l k = true := by rw [isNo, withinB_iff]; omega
  simp [raised, okRaise, raiseErr, h, h2, hk, h3]
theorem rb_ok {l : List Site} {k : Nat} {y : Int} (h : okSites l = true) (hk : k < l.length) (h3 : okBy l[k] y = true) : raised l k y = l.set k (upw l[k] y) ∧ raiseErr l k y = 0 := by
  have h2 : isNo l k = true := by rw [isNo, withinB_iff]; omega
  simp [raised, okRaise, raiseErr, h, h2, hk, h3]

theorem sitesV_set : ∀ (l : List Site) (k : Nat) (hk : k < l.length) (n : Int), (sitesV l).set (k * 3 + 2) (.int .i64 n) = sitesV (l.set k ⟨l[k].x, l[k].y, n⟩)
  | s :: l, 0, _, n => by simp [sitesV]
  | s :: l, k + 1, hk, n => by
    have h := sitesV_set l k (by simpa using hk) n
    have e : ∀ (t : Site) (m : List Site), sitesV (t :: m) = [.int .i64 t.x, .int .i64 t.y, .int .i64 t.w] ++ sitesV m := fun t m => by simp [sitesV]
    rw [List.set_cons_succ, e, e, List.set_append_right _ _ (by simp; omega), show (k + 1) * 3 + 2 - [Value.int .i64 s.x, .int .i64 s.y, .int .i64 s.w].length = k * 3 + 2 by simp; omega, h]
    rfl

theorem ownsRow_form {W : World} {base : Nat} {e : TypeId} {size : Nat} {v : Value} {k : Nat} {xs : List Value} (h : W.ownsRow base e size v k xs) (hk : 0 < k) : ∃ g cap, v = .slice (some ⟨g, 0, none⟩) k cap ∧ base ≤ g ∧ g < W.heap.size := by
  rcases h.2 with ⟨_, h0⟩ | ⟨g, cap, _, rfl, hb, hg, _⟩
  · omega
  · exact ⟨g, cap, rfl, hb, (Array.getElem?_eq_some_iff.1 hg).1⟩

set_option maxHeartbeats 1000000 in
theorem f27_c (a : Option Addr) (n c : Nat) (l : List Site) (i y : Int) (w : World) (hl : Sites w a l) (hn : l.length = n) (hlen : n ≤ 1000000) :
    Calls Try.prog 27 #[.slice a n c, .int .i64 i, .int .i64 y] w (RetSites (raised l i y) (raiseErr l i y) w) := by
  subst hn
  have Hc := Lib.hid (f22_c a l.length c l w hl rfl (by omega))
  by_cases hok : okSites l = true
  · rw [hok] at Hc
    by_cases hi : isNo l i = true
    · obtain ⟨k, rfl, hk⟩ := isNo_at hi
      have hsb := okSite_bd (okSites_at hok hk)
      cases h1 : withinB y (-40000) 40000 with
      | false =>
        obtain ⟨e1, e2⟩ := rb_far (y := y) hok hk (by simp [okBy, h1])
        rw [e1, e2]
        have H1 := Lib.hid h1
        clear hok hi h1 e1 e2
        go_enter Try.func27, Try.ntmps27
        go_wp2_with fail
        refine Hc.out.mono ?_
        rintro e w1 ⟨rfl, hE1⟩
        clear Hc
        unfold errOf
        have hA : allIn 40000 [y] = false := by rw [allIn1]; exact H1.out
        go_wp2_with fail
        refine (f57_c 40000 _ 1 1 [y] _ (ints_new1 _ _ _ _ (by simp)) (by rfl) (by omega) (by omega) (by omega)).mono ?_
        rintro e w2 ⟨rfl, hE2⟩
        have hE3 : Ext w w2 := hE1.trans' ((ext_alloc _ _).trans' hE2)
        go_wp2_with fail
        go_ret2
        exact retS_nil hE3
      | true =>
        have hyb := withinB_iff.1 h1
        cases h2 : withinB (l[k].w + y) (-20000) 20000 with
        | false =>
          obtain ⟨e1, e2⟩ := rb_far (y := y) hok hk (by simp [okBy, h2])
          rw [e1, e2]
          have H1 := Lib.hid h1
          have H2 := Lib.hid h2
          clear hok hi h1 h2 e1 e2
          go_enter Try.func27, Try.ntmps27
          go_wp2_with fail
          refine Hc.out.mono ?_
          rintro e w1 ⟨rfl, hE1⟩
          clear Hc
          unfold errOf
          have hA : allIn 40000 [y] = true := by rw [allIn1]; exact H1.out
          have hA2 : allIn 20000 [l[k].w + y] = false := by rw [allIn1]; exact H2.out
          go_wp2_with fail
          refine (f57_c 40000 _ 1 1 [y] _ (ints_new1 _ _ _ _ (by simp)) (by rfl) (by omega) (by omega) (by omega)).mono ?_
          rintro e w2 ⟨rfl, hE2⟩
          have hE3 : Ext w w2 := hE1.trans' ((ext_alloc _ _).trans' hE2)
          obtain ⟨b, off, rfl, hb, hcx, hcy, hcw⟩ := hl.ext hE3 k hk
          go_wp2_with fail
          refine (f57_c 20000 _ 1 1 [l[k].w + y] _ (ints_new1 _ _ _ _ (by simp)) (by rfl) (by omega) (by omega) (by omega)).mono ?_
          rintro e w3 ⟨rfl, hE4⟩
          have hE5 : Ext w w3 := hE3.trans' ((ext_alloc _ _).trans' hE4)
          go_wp2_with fail
          go_ret2
          exact retS_nil hE5
        | true =>
          obtain ⟨e1, e2⟩ := rb_ok (y := y) hok hk (by simp [okBy, h1, h2])
          rw [e1, e2]
          have H1 := Lib.hid h1
          have H2 := Lib.hid h2
          have hwb := withinB_iff.1 h2
          clear hok hi h1 h2 e1 e2
          go_enter Try.func27, Try.ntmps27
          go_wp2_with fail
          refine Hc.out.mono ?_
          rintro e w1 ⟨rfl, hE1⟩
          clear Hc
          unfold errOf
          have hA : allIn 40000 [y] = true := by rw [allIn1]; exact H1.out
          have hA2 : allIn 20000 [l[k].w + y] = true := by rw [allIn1]; exact H2.out
          go_wp2_with fail
          refine (f57_c 40000 _ 1 1 [y] _ (ints_new1 _ _ _ _ (by simp)) (by rfl) (by omega) (by omega) (by omega)).mono ?_
          rintro e w2 ⟨rfl, hE2⟩
          have hE3 : Ext w w2 := hE1.trans' ((ext_alloc _ _).trans' hE2)
          obtain ⟨b, off, rfl, hb, hcx, hcy, hcw⟩ := hl.ext hE3 k hk
          go_wp2_with fail
          refine (f57_c 20000 _ 1 1 [l[k].w + y] _ (ints_new1 _ _ _ _ (by simp)) (by rfl) (by omega) (by omega) (by omega)).mono ?_
          rintro e w3 ⟨rfl, hE4⟩
          have hE5 : Ext w w3 := hE3.trans' ((ext_alloc _ _).trans' hE4)
          go_wp2_with fail
          refine (f68_c _ l.length c l w3 (hl.ext hE5) rfl hlen).mono ?_
          rintro e w4 ⟨v, rfl, hrow, hE6⟩
          obtain ⟨g, cap, rfl, hg1, hg2⟩ := ownsRow_form hrow (by omega)
          have gw : w4.cell? ⟨g, k * 3 + 2, none⟩ = some (.int .i64 l[k].w) := (hrow.cellAt (k * 3 + 2) (by omega)).trans (sitesV_at l k hk).2.2
          have gf := hrow.frozenAt (k * 3 + 2)
          go_wp2_with fail
          go_ret2
          refine ⟨_, rfl, ?_, (hE5.trans' hE6).setCell (by show w.heap.size ≤ g; have := hE5.size; omega) _⟩
          have hst := (hrow.stored (k * 3 + 2) (.int .i64 (l[k].w + y))).1
          rw [sitesV_set l k hk] at hst
          rw [List.length_set]
          exact row_base hst hE5.size
    · have hi' : isNo l i = false := by simpa using hi
      obtain ⟨e1, e2⟩ := rb_no (y := y) hok hi'
      rw [e1, e2]
      have hbd : i < 0 ∨ (l.length : Int) ≤ i := by
        simp [isNo, withinB] at hi'
        omega
      clear hok hi hi' e1 e2
      by_cases h0 : i < 0
      · have d0 : decide (i < 0) = true := by simpa using h0
        go_enter Try.func27, Try.ntmps27
        go_wp2_with fail
        refine Hc.out.mono ?_
        rintro e w1 ⟨rfl, hE1⟩
        clear Hc
        unfold errOf
        go_wp2_with fail
        go_ret2
        exact retS_nil hE1
      · have d0 : decide (i < 0) = false := by simpa using h0
        have d1 : decide ((l.length : Int) ≤ i) = true := by simp; omega
        go_enter Try.func27, Try.ntmps27
        go_wp2_with fail
        refine Hc.out.mono ?_
        rintro e w1 ⟨rfl, hE1⟩
        clear Hc
        unfold errOf
        go_wp2_with fail
        go_ret2
        exact retS_nil hE1
  · have hok' : okSites l = false := by simpa using hok
    rw [hok'] at Hc
    obtain ⟨e1, e2⟩ := rb_bad (i := i) (y := y) hok'
    rw [e1, e2]
    clear hok hok' e1 e2
    go_enter Try.func27, Try.ntmps27
    go_wp2_with fail
    refine Hc.out.mono ?_
    rintro e w1 ⟨rfl, hE1⟩
    clear Hc
    unfold errOf
    go_wp2_with fail
    go_ret2
    exact retS_nil hE1

set_option maxHeartbeats 1000000 in
theorem f28_c (a : Option Addr) (n c : Nat) (l : List Site) (i y : Int) (w : World) (hl : Sites w a l) (hn : l.length = n) (hlen : n ≤ 1000000) :
    Calls Try.prog 28 #[.slice a n c, .int .i64 i, .int .i64 y] w (RetSites (raised l i y) (raiseErr l i y) w) := by
  subst hn
  have Hc := Lib.hid (f59_c a l.length c l i w hl rfl (by omega))
  obtain ⟨i0, hi0⟩ := info_parts info31
  have Hi := Lib.hid hi0
  clear hi0
  by_cases hok : okSites l = true
  · by_cases hi : isNo l i = true
    · rw [siteErr_ok hok hi] at Hc
      obtain ⟨k, rfl, hk⟩ := isNo_at hi
      have hsb := okSite_bd (okSites_at hok hk)
      obtain ⟨b, off, rfl, hb, hcx, hcy, hcw⟩ := hl k hk
      cases h1 : withinB y (-40000) 40000 with
      | false =>
        obtain ⟨e1, e2⟩ := rb_far (y := y) hok hk (by simp [okBy, h1])
        rw [e1, e2]
        clear hok hi e1 e2
        go_enter Try.func28, Try.ntmps28
        go_wp2_with fail
        refine Hc.out.mono ?_
        rintro e w1 ⟨rfl, rfl⟩
        clear Hc
        go_wp2_with (go_at_call 60; refine (f60_c _ _ _ _).mono ?_; rintro e w' ⟨rfl, rfl⟩)
        go_ret2
        exact retS_nil (Below.refl _ _)
      | true =>
        have hyb := withinB_iff.1 h1
        cases h2 : withinB (l[k].w + y) (-20000) 20000 with
        | false =>
          obtain ⟨e1, e2⟩ := rb_far (y := y) hok hk (by simp [okBy, h2])
          rw [e1, e2]
          clear hok hi e1 e2
          go_enter Try.func28, Try.ntmps28
          go_wp2_with fail
          refine Hc.out.mono ?_
          rintro e w1 ⟨rfl, rfl⟩
          clear Hc
          go_wp2_with (go_at_call 60; refine (f60_c _ _ _ _).mono ?_; rintro e w' ⟨rfl, rfl⟩)
          go_ret2
          exact retS_nil (Below.refl _ _)
        | true =>
          obtain ⟨e1, e2⟩ := rb_ok (y := y) hok hk (by simp [okBy, h1, h2])
          rw [e1, e2]
          have hwb := withinB_iff.1 h2
          have Hrow := Lib.hid (row_empty w 31 3)
          have Hr := Lib.hid (reads_sites (hl.ext (ext_alloc w (.cells #[] 31))))
          clear hok hi e1 e2
          go_enter Try.func28, Try.ntmps28
          go_wp2_with fail
          refine Hc.out.mono ?_
          rintro e w1 ⟨rfl, rfl⟩
          clear Hc
          go_wp2_with (first | (go_at_call 60; refine (f60_c _ _ _ _).mono ?_; rintro e w' ⟨rfl, rfl⟩) | (at_builtin; refine wpList_append_any _ rfl (.tmp 30) (.tmp 31) 22 rfl w.heap.size 31 i0 _ 3 24 Try.underlying22 Hi.out.1 Hi.out.2.1 Hi.out.2.2.1 Hi.out.2.2.2 rfl (by omega) (.slice (some ⟨w.heap.size, 0, none⟩) 0 0) 0 [] rfl Hrow.out _ (some ⟨b, off, none⟩) l.length c (sitesV l) rfl Hr.out (sitesV_one_cell l) (by unfold maxLen; omega) (by omega) (by simp) ?_; intro v' w4 hown hgrow hat; have hrow : w4.ownsRow w.heap.size 31 3 v' l.length (sitesV l) := (by simpa using hown); have hE6 := ext_grow (ext_alloc w (.cells #[] 31)) Hrow.out (Nat.le_refl _) hgrow; clear hat hgrow hown; obtain ⟨g, cap, rfl, hg1, hg2⟩ := ownsRow_form hrow (by omega); have gw : w4.cell? ⟨g, k * 3 + 2, none⟩ = some (.int .i64 l[k].w) := (hrow.cellAt (k * 3 + 2) (by omega)).trans (sitesV_at l k hk).2.2; have gf := hrow.frozenAt (k * 3 + 2)))
          go_ret2
          refine ⟨_, rfl, ?_, hE6.setCell (by show w.heap.size ≤ g; omega) _⟩
          have hst := (hrow.stored (k * 3 + 2) (.int .i64 (l[k].w + y))).1
          rw [sitesV_set l k hk] at hst
          rw [List.length_set]
          exact hst
    · have hi' : isNo l i = false := by simpa using hi
      rw [siteErr_no hok hi'] at Hc
      obtain ⟨e1, e2⟩ := rb_no (y := y) hok hi'
      rw [e1, e2]
      clear hok hi hi' e1 e2
      go_enter Try.func28, Try.ntmps28
      go_wp2_with fail
      refine Hc.out.mono ?_
      rintro e w1 ⟨rfl, rfl⟩
      clear Hc
      go_wp2_with fail
      go_ret2
      exact retS_nil (Below.refl _ _)
  · have hok' : okSites l = false := by simpa using hok
    rw [siteErr_bad hok'] at Hc
    obtain ⟨e1, e2⟩ := rb_bad (i := i) (y := y) hok'
    rw [e1, e2]
    clear hok hok' e1 e2
    go_enter Try.func28, Try.ntmps28
    go_wp2_with fail
    refine Hc.out.mono ?_
    rintro e w1 ⟨rfl, rfl⟩
    clear Hc
    go_wp2_with fail
    go_ret2
    exact retS_nil (Below.refl _ _)
end Go.Proofs.Ytodlbgncdggimaa
