/- Plain words and general laws, merged: T47 T48. -/
import Derived.Test.YtodlbgncdggimaaP14
import Derived.Test.YtodlbgncdggimaaT18
import Derived.Test.YtodlbgncdggimaaT20
import Derived.Test.YtodlbgncdggimaaT36
/- Contract of cells: Balance, the walk. -/
namespace Go.Proofs.Ytodlbgncdggimaa
open Go.RowKit
attribute [local go_sem] GW.cell Oper.semAt_some wide_depth

theorem box_setp {X : World} {B : Nat} {t : TypeId} {v : Value} (h : Boxed X B t v) {p : Addr} (hne : B ≠ p.block) (u : Value) : Boxed (X.setCell p u) B t v := (Below.heap_setCell X p u B hne).trans h
theorem size_setCell (X : World) (p : Addr) (u : Value) : (X.setCell p u).heap.size = X.heap.size := by unfold World.setCell; split <;> simp

set_option maxRecDepth 100000 in
set_option maxHeartbeats 8000000 in
theorem f51_c (a b : Option Addr) (n c m d : Nat) (l : List Site) (S : List Int) (x y : Int) (w : World) (hl : Sites w a l) (hS : Ints w b S) (hn : l.length = n) (hm : S.length = m) (hlen : n ≤ 140737488355328) (hlm : m ≤ 140737488355328) :
    Calls Try.prog 51 #[.slice a n c, .int .i64 x, .int .i64 y, .slice b m d] w (RetBal l x y S w) := by
  have hc := f80_c a b n c m d l S x y w hl hS hn hm hlen hlm
  rcases errOf_cases2 (okShared l x y S) with ⟨hok, he⟩ | ⟨hok, he⟩
  · obtain ⟨hF, -, -, -⟩ := shared_spec.1 hok
    obtain ⟨h0, h1, h2, h3, h4⟩ := okField_bd hF
    obtain ⟨wd, rfl⟩ := Int.eq_ofNat_of_zero_le (a := x) (by omega)
    obtain ⟨ht, rfl⟩ := Int.eq_ofNat_of_zero_le (a := y) (by omega)
    have hcell : CellOk l wd ht := ⟨h0, by omega, by omega, by omega⟩
    have hR : ∀ L O a c b d w', Ext w w' → Sites w' a L → Ints w' b O → ShareOf l wd ht S O → (∃ W : List Int, W.length = l.length ∧ (∀ v, v < l.length → -20000 ≤ gi W v ∧ gi W v ≤ 20000) ∧ L = setW l W ∧ FitsTo (dC l wd) (oF O) (wd * ht) l.length (gi W)) → RetBal l wd ht S w (.returned (.tuple #[.slice a L.length c, .slice b O.length d, .int .i64 0])) w' :=
      fun L O a c b d w' hE h1 h2 h3 h4 => ⟨L, O, a, c, b, d, by rw [he], h1, h2, ⟨fun h => by rw [hok] at h; simp at h, fun _ => by rw [Int.toNat_natCast, Int.toNat_natCast]; exact ⟨h3, h4⟩⟩, hE⟩
    rw [he] at hc
    have hw : 1 ≤ wd ∧ wd ≤ 12 ∧ ht ≤ 12 := by omega
    have hn5 := hcell.n
    have hpx := hcell.pix
    have Hc := Lib.hid hc
    have Hok := Lib.hid hok
    have Hcell := Lib.hid hcell
    have HR := Lib.hid hR
    clear hc he hok hF h0 hR hcell
    refine calls_range Try.func51 rfl ?_
    simp only [Try.ntmps51, List.size_toArray, List.length_cons, List.length_nil, Nat.reduceAdd, Nat.reduceSub, Array.replicate_succ, Array.replicate_zero, List.push_toArray, List.append_toArray, List.nil_append, List.cons_append]
    go_wp2_with fail
    refine Hc.out.mono ?_
    rintro e w1 ⟨rfl, hE1⟩
    clear Hc
    go_wp2_with fail
    refine (f81_c a b n c m d l S wd ht w1 (hl.ext hE1) (hS.ext hE1) hn hm Hok.out).mono ?_
    rintro e wB ⟨O, aO, cO, rfl, hO, hsh, hE2⟩
    have hE12 := hE1.trans' hE2
    have Hsh := Lib.hid hsh
    have HO := Lib.hid hO
    have HOl := Lib.hid hsh.len
    obtain ⟨p, hp⟩ := hsh.fits
    have Hctx : Hid (BalCtx l wd ht O p) := Lib.hid ⟨Hcell.out, hsh.own, hsh.len, hp⟩
    clear hsh hO hp
    go_wp2_with fail
    have hlB := hl.ext hE12
    have hEB := ext_alloc wB (.cells #[.slice aO O.length cO] 26)
    refine (f68_c a n c l _ (hlB.ext hEB) hn (by omega)).mono ?_
    rintro e wC ⟨v, rfl, hrow, hE3⟩
    obtain ⟨g, cap, rfl, hg1, hg2⟩ := ownsRow_form hrow (by omega)
    have hpB := Boxed.new wB 26 (.slice aO O.length cO)
    have b12 := box_ext hpB hE3
    have hEC : Ext wB wC := hEB.trans' hE3
    have hszC := hEC.size
    simp only [World.size_alloc] at hg1 hrow
    obtain ⟨p12, hp12⟩ : ∃ p12, p12 = wB.heap.size := ⟨_, rfl⟩
    rw [← hp12] at b12 hg1 hrow ⊢
    clear hpB hEB hE3
    have hE13 := ext_alloc wC (.cells #[.slice (some ⟨g, 0, none⟩) n cap] 22)
    have b13 := Boxed.new wC 22 (.slice (some ⟨g, 0, none⟩) n cap)
    have b12' := box_ext b12 hE13
    have hrow' := row_ext hrow hE13
    have hED := hEC.trans' hE13
    have hlt12 := b12.lt
    obtain ⟨p13, hp13⟩ : ∃ p13, p13 = wC.heap.size := ⟨_, rfl⟩
    rw [← hp13] at b13 hlt12 hg2
    have hs13 : p13 < (wC.alloc (.cells #[.slice (some ⟨g, 0, none⟩) n cap] 22)).heap.size := b13.lt
    have Hrow : Hid ((wC.alloc (.cells #[.slice (some ⟨g, 0, none⟩) n cap] 22)).ownsRow (p12 + 1) 31 3 (.slice (some ⟨g, 0, none⟩) n cap) n (sitesV (setW l (zerTo l 0)))) := Lib.hid (by rw [zerTo_zero, setW_self]; exact hrow')
    have hb13c := b13.cell
    have hb13f := b13.frozen
    clear hrow hrow' b12
    go_wp2_with fail
    rw [← hp13, ← hp12]
    have HlB : Hid (wB.heap.size ≤ p12) := Lib.hid (by omega)
    clear hp12 hp13 hszC
    go_loopw [39] (fun v39 wr => ∃ q : Nat, q ≤ n ∧ v39 = .int .i64 q ∧ Ext wB wr ∧ p13 < wr.heap.size ∧ Boxed wr p12 26 (.slice aO O.length cO) ∧ Boxed wr p13 22 (.slice (some ⟨g, 0, none⟩) n cap) ∧ Hid (wr.ownsRow (p12 + 1) 31 3 (.slice (some ⟨g, 0, none⟩) n cap) n (sitesV (setW l (zerTo l q))))) (fun v39 _ => n - (intOf v39).toNat)
    case atStart => exact ⟨0, Nat.zero_le _, rfl, hED, hs13, b12', b13, Hrow⟩
    case round =>
      clear hED hs13 b12' b13 Hrow hb13c hb13f hE13
      obtain ⟨q, hq, rfl, hE, hs13, b12, b13, Hrow⟩ := hrel
      have hb13c := b13.cell
      have hb13f := b13.frozen
      by_cases hqn : q < n
      · have hql : q < l.length := by omega
        have hrow := Hrow.out
        have hqc := setW_cells (zerTo_len l q) hql
        have hcw := (hrow.cellAt (q * 3 + 2) (by omega)).trans hqc.2.2
        have hcf := hrow.frozenAt (q * 3 + 2)
        have hst := (hrow.stored (q * 3 + 2) (.int .i64 0)).1
        rw [setW_row (zerTo_len l q) hql, zerTo_succ hql] at hst
        have Hst := Lib.hid hst
        clear hrow hqc hst
        go_wp2_with fail
        go_roundw
        case rel =>
          refine ⟨q + 1, by omega, by go_num, hE.setCell (show wB.heap.size ≤ g by have := HlB.out; omega) _, by rw [size_setCell]; exact hs13, box_setp b12 (by show p12 ≠ g; omega) _, box_setp b13 (by show p13 ≠ g; omega) _, Hst⟩
        case measure => simp [intOf]; omega
      · obtain rfl : n = q := by omega
        go_wp2_with fail
        clear hqn
        have hrow0 := Hrow.out
        rw [show zerTo l n = (zeroC l).at_ by rw [← hn]; exact zerTo_all l] at hrow0
        have hE9 := ext_alloc wr (.cells #[.bool true] 4)
        have b15 := Boxed.new wr 4 (.bool true)
        have b12 := box_ext b12 hE9
        have b13 := box_ext b13 hE9
        have hE := hE.trans' hE9
        have hrow0 := row_ext hrow0 hE9
        have hsh0 := shut_nil (wr.alloc (.cells #[.bool true] 4)) wB.heap.size
        obtain ⟨B15, hB15⟩ : ∃ B15, B15 = wr.heap.size := ⟨_, rfl⟩
        rw [← hB15] at b15 hs13 ⊢
        obtain ⟨w5, hw5⟩ : ∃ w5, w5 = wr.alloc (.cells #[.bool true] 4) := ⟨_, rfl⟩
        rw [← hw5] at b15 b12 b13 hE hrow0 hsh0 ⊢
        have Hrow0 : Hid (w5.ownsRow (p12 + 1) 31 3 (.slice (some ⟨g, 0, none⟩) n cap) n (sitesV (setW l (zeroC l).at_))) := Lib.hid hrow0
        clear hw5 hB15 hE9 hrow0 Hrow hb13c hb13f
        refine wp_loop_ghost_k (fun k a' w' => ∃ u16 u47 u48 u49 u50 u92 B15 Ds ag st, a' = ⟨#[.slice a n c, .int .i64 wd, .int .i64 ht, .slice b m d, undef, undef, undef, undef, .slice none 0 0, .slice none 0 0, .int .i64 0, .int .i64 0, .pointer (some ⟨p12, 0, none⟩), .pointer (some ⟨p13, 0, none⟩), u14, .pointer (some ⟨B15, 0, none⟩), u16, undef, undef, undef, undef, undef, .slice a n c, .int .i64 wd, .int .i64 ht, .slice b m d, .int .i64 0, .int .i64 0, .bool false, undef, .slice a n c, .int .i64 wd, .int .i64 ht, .slice b m d, .slice aO O.length cO, .slice a n c, .slice (some ⟨g, 0, none⟩) n cap, .slice (some ⟨g, 0, none⟩) n cap, .int .i64 n, .int .i64 n, .bool false, u41, u42, u43, u44, u45, u46, u47, u48, u49, u50, undef, undef, undef, undef, undef, undef, undef, undef, undef, undef, undef, undef, undef, undef, undef, undef, undef, undef, undef, undef, undef, undef, undef, undef, undef, undef, undef, undef, undef, undef, undef, undef, undef, undef, undef, undef, undef, undef, undef, undef, undef, u92, undef, undef], List.map mark Ds⟩ ∧ BalI l wd ht O p st ∧ k = (if ag = true then (muC l st).toNat + 1 else 0) ∧
            (ag = false → FitsTo (dC l wd) (oF O) (wd * ht) l.length (gi st.at_)) ∧ p13 < B15 ∧ Ext wB w' ∧ Boxed w' p12 26 (.slice aO O.length cO) ∧ Boxed w' p13 22 (.slice (some ⟨g, 0, none⟩) n cap) ∧ Boxed w' B15 4 (.bool ag) ∧
            w'.ownsRow (p12 + 1) 31 3 (.slice (some ⟨g, 0, none⟩) n cap) n (sitesV (setW l st.at_)) ∧ Shut w' wB.heap.size Ds) ((muC l (zeroC l)).toNat + 1)
          ⟨_, _, _, _, _, _, B15, [], true, zeroC l, rfl, zeroC_ok, rfl, (fun h => by cases h), hs13, hE, b12, b13, b15, Hrow0.out, hsh0⟩ ?round
        case round =>
          clear hE b12 b13 b15 hsh0 Hrow0 hs13
          clear B15
          rintro gk a5 wq ⟨u16, u47, u48, u49, u50, u92, B15, Ds, ag, st, rfl, hI, hgk, hF, hs13, hE, b12, b13, b15, hrow, hSh⟩ J K hJ hK
          have HI := Lib.hid hI
          have Hrow := Lib.hid hrow
          have HF := Lib.hid hF
          have HSh := Lib.hid hSh
          have Hgk := Lib.hid hgk
          have hb12c := b12.cell
          have hb13c := b13.cell
          have hb15c := b15.cell
          have hb15f := b15.frozen
          clear hI hrow hF hSh hgk
          generalize hDs : List.map mark Ds = ds at *
          cases ag with
          | false =>
            have l12 := b12.lt
            have l13 := b13.lt
            go_wp2_with fail
            refine wp_region_ext (by kernel_rfl) (by kernel_rfl) ?_
            repeat (go_big_quiet_step (fail))
            refine wpQuiet_nil ?_
            intro w1 hE1
            clear hb12c hb13c hb15c hb15f
            go_wp2_with fail
            subst hDs
            refine leaves_all (B := wB.heap.size) (fun X => Ext wB X ∧ X.ownsRow (p12 + 1) 31 3 (.slice (some ⟨g, 0, none⟩) n cap) n (sitesV (setW l st.at_)) ∧ Ints X aO O) ?_ ?_ Ds w1 (HSh.out.ext hE1) ⟨hE.trans' hE1, row_ext Hrow.out hE1, (HO.out.ext hE).ext hE1⟩
            · rintro X D ⟨k1, k2, k3⟩ hB hD
              exact ⟨ext_putObj k1 hB _, ownsRow_putObj k2 (.deferred none) hD rfl, ints_put k3 hD _⟩
            · rintro X ⟨k1, k2, k3⟩
              obtain ⟨ad, cp, e, hSi⟩ := sites_of_row k2
              refine ⟨_, results_tmp3 rfl _ _ _, ?_⟩
              have hfin := HR.out (setW l st.at_) O ad cp aO cO X (hE12.trans' k1) hSi k3 Hsh.out ⟨st.at_, HI.out.la, fun v hv => ⟨by have := HI.out.lo Hctx.out hv; omega, by have := HI.out.hi v; omega⟩, rfl, HF.out trivial⟩
              rw [← e] at hfin
              exact hfin
          | true =>
            go_wp2_with (go_at_call 63; refine (f63_c _ _ _).mono ?_; rintro e w' ⟨rfl, rfl⟩)
            have hB12 : p12 ≠ B15 := by omega
            have hB13 : p13 ≠ B15 := by omega
            have hgB : g ≠ B15 := by omega
            have hB15 := b15.lt
            have hX : Ext (wq.setCell ⟨B15, 0, none⟩ (.bool false)) ((((wq.setCell ⟨B15, 0, none⟩ (.bool false)).alloc (.cells #[.int .i64 0] 3)).alloc (.cells #[.int .i64 wd] 3)).alloc (.cells #[.int .i64 ht] 3)) :=
              ((ext_alloc _ _).trans' (ext_alloc _ _)).trans' (ext_alloc _ _)
            have a16 := Boxed.new (wq.setCell ⟨B15, 0, none⟩ (.bool false)) 3 (.int .i64 0)
            have aw := Boxed.new ((wq.setCell ⟨B15, 0, none⟩ (.bool false)).alloc (.cells #[.int .i64 0] 3)) 3 (.int .i64 wd)
            have eh := Boxed.new (((wq.setCell ⟨B15, 0, none⟩ (.bool false)).alloc (.cells #[.int .i64 0] 3)).alloc (.cells #[.int .i64 wd] 3)) 3 (.int .i64 ht)
            have e16 := (a16.alloc (.cells #[.int .i64 wd] 3)).alloc (.cells #[.int .i64 ht] 3)
            have ew := aw.alloc (.cells #[.int .i64 ht] 3)
            have g12 := box_ext (b12.other hB12 (.bool false)) hX
            have g13 := box_ext (b13.other hB13 (.bool false)) hX
            have g15 := box_ext (b15.set (.bool false)) hX
            have grow := row_ext (Hrow.out.kept (grownBy_setCell' wq B15 (.bool false)) (.inr (by simp [Value.ownBlock]; omega))) hX
            have gE0 : Ext wB (wq.setCell ⟨B15, 0, none⟩ (.bool false)) := hE.setCell (show wB.heap.size ≤ B15 by have := HlB.out; omega) _
            have gE := gE0.trans' hX
            clear gE0
            have gSh := (HSh.out.set (p := ⟨B15, 0, none⟩) b15 (.bool false)).ext hX
            have hsz : ((((wq.setCell ⟨B15, 0, none⟩ (.bool false)).alloc (.cells #[.int .i64 0] 3)).alloc (.cells #[.int .i64 wd] 3)).alloc (.cells #[.int .i64 ht] 3)).heap.size = wq.heap.size + 1 + 1 + 1 := by simp only [World.size_alloc, World.size_setCell]
            simp only [World.size_alloc, World.size_setCell] at e16 ew eh
            have hlt := HSh.out.lt
            obtain ⟨p16, hp16⟩ : ∃ p16, p16 = wq.heap.size := ⟨_, rfl⟩
            rw [← hp16] at hsz e16 ew eh hB15 hlt ⊢
            obtain ⟨W1, hW1⟩ : ∃ W1, W1 = ((((wq.setCell ⟨B15, 0, none⟩ (.bool false)).alloc (.cells #[.int .i64 0] 3)).alloc (.cells #[.int .i64 wd] 3)).alloc (.cells #[.int .i64 ht] 3)) := ⟨_, rfl⟩
            rw [← hW1] at hsz e16 ew eh g12 g13 g15 grow gE gSh ⊢
            clear a16 aw hX hW1 hp16 hE b12 b13 b15 Hrow HSh hb12c hb13c hb15c hb15f HF
            clear wq
            have HI0 : Hid (BalI l wd ht O p (partC l wd O st 0 0)) := Lib.hid (HI.out.last (-1))
            refine wp_range (gf := 89) (lb := #[.pointer (some ⟨p16 + 1, 0, none⟩), .pointer (some ⟨p16 + 1 + 1, 0, none⟩)]) rfl (enters_of Try.func89 (by kernel_rfl) rfl)
              (f89_seq wd ht (by omega) (by omega) (by omega) (p16 + 1) (p16 + 1 + 1)) (fun _ => rfl)
              (fun k W => Ext wB W ∧ Boxed W p12 26 (.slice aO O.length cO) ∧ Boxed W p13 22 (.slice (some ⟨g, 0, none⟩) n cap) ∧ Boxed W B15 4 (.bool (decide (0 ≤ (partC l wd O st k 0).last))) ∧ Boxed W p16 3 (.int .i64 k) ∧ Boxed W (p16 + 1) 3 (.int .i64 wd) ∧ Boxed W (p16 + 1 + 1) 3 (.int .i64 ht) ∧
                W.ownsRow (p12 + 1) 31 3 (.slice (some ⟨g, 0, none⟩) n cap) n (sitesV (setW l (partC l wd O st k 0).at_)) ∧ Shut W wB.heap.size Ds)
              (fun _ _ _ => False) ?hI (fun _ _ _ _ _ h _ _ => h) (fun k W h => ⟨h.2.2.2.2.2.1.cell, h.2.2.2.2.2.2.1.cell⟩)
              ⟨gE, g12, g13, g15, e16, ew, eh, grow, gSh⟩
              (fun k => { tmps := #[.slice a n c, .int .i64 wd, .int .i64 ht, .slice b m d, undef, undef, undef, undef, .slice none 0 0, .slice none 0 0, .int .i64 0, .int .i64 0, .pointer (some ⟨p12, 0, none⟩), .pointer (some ⟨p13, 0, none⟩), u14, .pointer (some ⟨B15, 0, none⟩), .pointer (some ⟨p16, 0, none⟩), .int .i64 ((k : Int) % (wd : Int)), .int .i64 ((k : Int) / (wd : Int)), undef, undef, undef, .slice a n c, .int .i64 wd, .int .i64 ht, .slice b m d, .int .i64 0, .int .i64 0, .bool false, undef, .slice a n c, .int .i64 wd, .int .i64 ht, .slice b m d, .slice aO O.length cO, .slice a n c, .slice (some ⟨g, 0, none⟩) n cap, .slice (some ⟨g, 0, none⟩) n cap, .int .i64 n, .int .i64 n, .bool false, u41, u42, u43, u44, u45, u46, .bool true, .int .i64 wd, .int .i64 ht, .func (.func 89) #[] #[.pointer (some ⟨p16 + 1, 0, none⟩), .pointer (some ⟨p16 + 1 + 1, 0, none⟩)], .int .i64 ((k : Int) % (wd : Int)), .int .i64 ((k : Int) / (wd : Int)), undef, undef, undef, undef, undef, undef, undef, undef, undef, undef, undef, undef, undef, undef, undef, undef, undef, undef, undef, undef, undef, undef, undef, undef, undef, undef, undef, undef, undef, undef, undef, undef, undef, undef, undef, undef, undef, undef, undef, u92, undef, undef], defers := [] }) ?assign ?body ?done ?stop
            case hI =>
              rintro k X Y row ⟨h1, h2, h3, h4, h5, h6, h7, h8, h9⟩ hg hr
              exact ⟨ext_keep h1 hg (by have := HlB.out; omega) hr, box_keep h2 hg hr, box_keep h3 hg hr, box_keep h4 hg hr, box_keep h5 hg hr, box_keep h6 hg hr, box_keep h7 hg hr, row_keep h8 hg hr, h9.keep (fun d hd => by have := hlt d hd; omega) hg hr⟩
            case assign =>
              intro l0 k W K hK
              unfold pix
              gi_wp2
              exact hK
            case done =>
              rintro D W hD ⟨hE, b12, b13, b15, b16, bw, bh, hrow, hSh⟩ hK5
              have hsD := Shut.cons hSh hK5 (by have := HlB.out; omega) (fun d hd => by have := hlt d hd; omega)
              have hb15c := b15.cell
              have Hrow := Lib.hid hrow
              have HsD := Lib.hid hsD
              have hltW := b13.lt
              have Hr := HI.out.round Hctx.out
              have Hfa := Lib.hid (HI.out.falls Hctx.out)
              have Hen := Lib.hid (HI.out.ends Hctx.out)
              have Hr1 := Lib.hid Hr.1
              have Hmu := Lib.hid (HI.out.mu Hctx.out)
              have Hmu1 := Lib.hid (Hr.1.mu Hctx.out)
              obtain ⟨lst, hlst⟩ : ∃ q, q = (roundC l wd O st (wd * ht)).last := ⟨_, rfl⟩
              have hb15d : W.cell? ⟨B15, 0, none⟩ = some (.bool (decide (0 ≤ lst))) := by rw [hlst]; exact hb15c
              rw [← hlst] at Hfa Hen
              clear hb15c hSh hrow hsD Hr hlst
              go_wp2_with fail
              have hX := ext_alloc W (.cells #[.bool (decide (0 ≤ lst))] 4)
              refine Handed.intro (if decide (0 ≤ lst) = true then (muC l (roundC l wd O st (wd * ht))).toNat + 1 else 0) ?_ (hJ _ _ _ ⟨.pointer (some ⟨p16, 0, none⟩), .bool true, .int .i64 wd, .int .i64 ht, .func (.func 89) #[] #[.pointer (some ⟨p16 + 1, 0, none⟩), .pointer (some ⟨p16 + 1 + 1, 0, none⟩)], .bool (decide (0 ≤ lst)), W.heap.size, D :: Ds, decide (0 ≤ lst), roundC l wd O st (wd * ht), ?_, Hr1.out, rfl, ?_, hltW, hE.trans' hX, box_ext b12 hX, box_ext b13 hX, Boxed.new _ _ _, row_ext Hrow.out hX, HsD.out.ext hX⟩)
              · have h1 := Hgk.out
                rw [if_pos trivial] at h1
                have h3 := Hmu.out
                by_cases h2 : 0 ≤ lst
                · rw [if_pos (by simpa using h2)]
                  have h4 := Hfa.out h2
                  have h5 := Hmu1.out
                  omega
                · rw [if_neg (by simpa using h2)]; omega
              · rw [List.map_cons, hDs]; rfl
              · intro h
                exact Hen.out (by simpa using h)
            case stop =>
              rintro D c k W _ _ h _
              exact h.elim
            case body =>
              rintro l0 k W ⟨hE, b12, b13, b15, b16, bw, bh, hrow, hSh⟩ hk
              have hkO : k < O.length := by rw [HOl.out]; exact hk
              obtain ⟨ho1, ho2⟩ := oF_lt Hctx.out.hO hkO
              obtain ⟨bO, oO, e2, hbO, hcO⟩ := HO.out.ext hE k hkO
              rw [gi_def, ho2] at hcO
              obtain ⟨A, L, own, hA, hyes, hno, hown, a0, a1, a2, a3⟩ := sweep_all HI.out Hctx.out hk
              rw [← a0] at hrow
              rw [← a1] at b15
              generalize oF O k = i at *
              have hi3 : i * 3 < n * 3 := by omega
              have hA0 := hA 0 (by omega)
              have hAi := hA0.2 i ho1
              have hdi := dC_bd Hcell.out hk ho1
              have hnear := near_w Hcell.out hk ho1 (v := gi (A 0) i) (by omega) (by omega)
              have h58 := fun W => f58_c ⟨l[i].x, l[i].y, gi (A 0) i⟩ ((k : Int) % (wd : Int)) ((k : Int) / (wd : Int)) W hnear
              simp only [sv_def] at h58
              have H58 := Lib.hid h58
              clear h58 hnear
              have hpowi := (pow_w (wd := wd) (k := k) ho1 (gi (A 0) i)).trans hown.symm
              obtain ⟨s0, s1, s2⟩ := setW_cells hA0.1 ho1
              have c0 := (hrow.cellAt (i * 3) (by omega)).trans s0
              have c1 := (hrow.cellAt (i * 3 + 1) (by omega)).trans s1
              have c2 := (hrow.cellAt (i * 3 + 2) (by omega)).trans s2
              have hin : i < n := by omega
              have hb12c := b12.cell
              have hb13c := b13.cell
              have hb16c := b16.cell
              have l12 := b12.lt
              have l13 := b13.lt
              have l16 := b16.lt
              have hg13 : g < W.heap.size := by omega
              have HA := Lib.hid hA
              have Hyes := Lib.hid hyes
              have Hno := Lib.hid hno
              rw [hn] at a2 a3
              have Hend := Lib.hid (And.intro a2 a3)
              have Hrow := Lib.hid hrow
              have HSh := Lib.hid hSh
              have Hpowi := Lib.hid hpowi
              have hownb : -13448 ≤ own ∧ own ≤ 16810 := by omega
              have Hown := Lib.hid hown
              clear hA hyes hno a0 a1 a2 a3 hrow hSh hpowi hown s0 s1 s2 ho2 HI
              subst e2
              gi_wp2_with fail
              refine wpIn_region_ext (r := some l0) (by kernel_rfl) (by kernel_rfl) (by kernel_rfl) ?_
              repeat (go_big_quiet_step ((go_at_call 58; exact quiet_ext (H58.out _))))
              refine wpQuiet_nil ?_
              intro w1 hE1
              rw [Hpowi.out]
              have hKO := ext_keeps hE1
              have hEw := hE.trans' hE1
              have d12 := box_ext b12 hE1
              have d13 := box_ext b13 hE1
              have d15 := box_ext b15 hE1
              have d16 := box_ext b16 hE1
              have dw := box_ext bw hE1
              have dh := box_ext bh hE1
              have drow := row_ext Hrow.out hE1
              have dSh := HSh.out.ext hE1
              have Drow := Lib.hid drow
              have DSh := Lib.hid dSh
              have HEB := Lib.hid hE
              clear b12 b13 b15 b16 bw bh Hrow HSh hE hb12c hb13c hb16c l12 l13 l16 c0 c1 c2 drow dSh hcO hbO hE1 hg13
              have d13c := d13.cell
              gi_wp2_with fail
              clear d13c
              gi_loopw [65] (fun v65 X => ∃ j : Nat, j ≤ n ∧ v65 = .int .i64 j ∧ KeepsOthers W X ∧ Ext wB X ∧ Boxed X p12 26 (.slice (some ⟨bO, oO, none⟩) O.length cO) ∧ Boxed X p13 22 (.slice (some ⟨g, 0, none⟩) n cap) ∧ Boxed X B15 4 (.bool (decide (0 ≤ L j))) ∧ Boxed X p16 3 (.int .i64 k) ∧ Boxed X (p16 + 1) 3 (.int .i64 wd) ∧ Boxed X (p16 + 1 + 1) 3 (.int .i64 ht) ∧
                Hid (X.ownsRow (p12 + 1) 31 3 (.slice (some ⟨g, 0, none⟩) n cap) n (sitesV (setW l (A j)))) ∧ Hid (Shut X wB.heap.size Ds)) (fun v65 _ => n - (intOf v65).toNat)
              case atStart => exact ⟨0, Nat.zero_le _, rfl, hKO, hEw, d12, d13, d15, d16, dw, dh, Drow, DSh⟩
              case round =>
                clear hKO hEw d12 d13 d15 d16 dw dh Drow DSh
                obtain ⟨j, hj, rfl, hKO, hEw, d12, d13, d15, d16, dw, dh, Drow, DSh⟩ := hrel
                have d13c := d13.cell
                by_cases hjn : j < n
                case neg =>
                  obtain rfl : n = j := by omega
                  have d16c := d16.cell
                  have d16f := d16.frozen
                  gi_wp2_with fail
                  obtain ⟨hn1, hn2⟩ := Hend.out
                  have e16 : Boxed (wr.setCell ⟨p16, 0, none⟩ (.int .i64 ((k : Int) + 1))) p16 3 (.int .i64 ((k + 1 : Nat) : Int)) := by
                    rw [show ((k + 1 : Nat) : Int) = (k : Int) + 1 by omega]; exact d16.set _
                  refine ⟨hKO.trans (KeepsOthers.setCell _ _ _), hEw.setCell (show wB.heap.size ≤ p16 by have := HlB.out; omega) _, d12.other (by omega) _, d13.other (by omega) _, ?_, e16, dw.other (by omega) _, dh.other (by omega) _, ?_, DSh.out.set (p := ⟨p16, 0, none⟩) d16 _⟩
                  · rw [← hn2]; exact d15.other (by omega) _
                  · rw [← hn1]; exact Drow.out.kept (grownBy_setCell' _ p16 _) (.inr (by simp [Value.ownBlock]; omega))
                have hjl : j < l.length := by omega
                have hAj := HA.out j (by omega)
                have hAv := hAj.2 j hjl
                have hdj := dC_bd Hcell.out hk hjl
                have hnear := near_w Hcell.out hk hjl (v := gi (A j) j) (by omega) (by omega)
                have h58 := fun W => f58_c ⟨l[j].x, l[j].y, gi (A j) j⟩ ((k : Int) % (wd : Int)) ((k : Int) / (wd : Int)) W hnear
                simp only [sv_def] at h58
                have H58 := Lib.hid h58
                have Hpow := Lib.hid (pow_w (wd := wd) (k := k) hjl (gi (A j) j))
                obtain ⟨s0, s1, s2⟩ := setW_cells hAj.1 hjl
                have c0 := (Drow.out.cellAt (j * 3) (by omega)).trans s0
                have c1 := (Drow.out.cellAt (j * 3 + 1) (by omega)).trans s1
                have c2 := (Drow.out.cellAt (j * 3 + 2) (by omega)).trans s2
                have Hs2 := Lib.hid s2
                have hst := setW_row hAj.1 hjl
                have Hst := Lib.hid hst
                have hAl := hAj.1
                clear h58 hnear s0 s1 s2 hAj hst
                gi_wp2_with fail
                refine ⟨trivial, (CallsIn.inRound l0 (callsIn_wide.2 (H58.out _))).mono ?_⟩
                rintro e X2 ⟨rfl, hE2⟩
                rw [Hpow.out]
                have Hy := Hyes.out j hjl
                have Hn := Hno.out j hjl
                obtain ⟨pj, hpj⟩ : ∃ pj, pj = dC l wd k j - gi (A j) j := ⟨_, rfl⟩
                have hpb : 0 ≤ pj ∧ pj ≤ 16810 := by omega
                rw [← hpj] at Hy Hn ⊢
                have hKO := hKO.trans (ext_keeps hE2)
                have hEw := hEw.trans' hE2
                have d12 := box_ext d12 hE2
                have d13 := box_ext d13 hE2
                have d15 := box_ext d15 hE2
                have d16 := box_ext d16 hE2
                have dw := box_ext dw hE2
                have dh := box_ext dh hE2
                have drow := row_ext Drow.out hE2
                have DSh := Lib.hid (DSh.out.ext hE2)
                have c2 := (drow.cellAt (j * 3 + 2) (by omega)).trans Hs2.out
                have f2 := drow.frozenAt (j * 3 + 2)
                generalize gi (A j) j = gv at *
                have hst := fun u => (drow.stored (j * 3 + 2) (.int .i64 u)).1
                have hgl : g < X2.heap.size := by have := d13.lt; omega
                have hgc := row_block drow
                clear c0 c1 d13c hpj
                have d13c := d13.cell
                have d15c := d15.cell
                have d15f := d15.frozen
                have d15l := d15.lt
                by_cases hlt : pj < own
                · obtain ⟨hy1, hy2⟩ := Hy hlt
                  have Hy1 := Lib.hid hy1
                  have Hy2 := Lib.hid hy2
                  have hBg : B15 ≠ g := fun e => hgB e.symm
                  have hv : gv - (own - pj) ≤ 20000 ∧ -40000 ≤ gv - (own - pj) := by omega
                  obtain ⟨gc, gk2, hgc⟩ := hgc
                  have D1 := Lib.hid (hst (gv - (own - pj)))
                  have E12 := box_setp (p := ⟨g, j * 3 + 2, none⟩) d12 (by show p12 ≠ g; omega) (.int .i64 (gv - (own - pj)))
                  have E13 := box_setp (p := ⟨g, j * 3 + 2, none⟩) d13 (by show p13 ≠ g; omega) (.int .i64 (gv - (own - pj)))
                  have E15 := box_setp (p := ⟨g, j * 3 + 2, none⟩) d15 (by show B15 ≠ g; omega) (.int .i64 (gv - (own - pj)))
                  have E16 := box_setp (p := ⟨g, j * 3 + 2, none⟩) d16 (by show p16 ≠ g; omega) (.int .i64 (gv - (own - pj)))
                  have Ew := box_setp (p := ⟨g, j * 3 + 2, none⟩) dw (by show p16 + 1 ≠ g; omega) (.int .i64 (gv - (own - pj)))
                  have Eh := box_setp (p := ⟨g, j * 3 + 2, none⟩) dh (by show p16 + 1 + 1 ≠ g; omega) (.int .i64 (gv - (own - pj)))
                  have ESh := DSh.out.set (p := ⟨g, j * 3 + 2, none⟩) hgc (.int .i64 (gv - (own - pj)))
                  have ESh2 := Lib.hid (ESh.set (p := ⟨B15, 0, none⟩) E15 (.bool true))
                  have EE : Ext wB (X2.setCell ⟨g, j * 3 + 2, none⟩ (.int .i64 (gv - (own - pj)))) := hEw.setCell (show wB.heap.size ≤ g by have := HlB.out; omega) _
                  have EE2 : Ext wB ((X2.setCell ⟨g, j * 3 + 2, none⟩ (.int .i64 (gv - (own - pj)))).setCell ⟨B15, 0, none⟩ (.bool true)) := EE.setCell (show wB.heap.size ≤ B15 by have := HlB.out; omega) _
                  have EK := (hKO.trans (KeepsOthers.setCell X2 ⟨g, j * 3 + 2, none⟩ (.int .i64 (gv - (own - pj))))).trans (KeepsOthers.setCell _ ⟨B15, 0, none⟩ (.bool true))
                  have e15c := E15.cell
                  have e15f := E15.frozen
                  have e13c := E13.cell
                  have D2 := Lib.hid (D1.out.kept (grownBy_setCell' _ B15 (.bool true)) (.inr (by simp [Value.ownBlock]; omega)))
                  rw [Hst.out] at D2
                  clear Hy Hn hy1 hy2 hst hgc ESh EE D1 drow hEw hKO DSh
                  gi_wp2_with fail
                  go_roundw
                  case rel =>
                    refine ⟨j + 1, by omega, by go_num, EK, EE2, E12.other (by omega) _, E13.other (by omega) _, ?_, E16.other (by omega) _, Ew.other (by omega) _, Eh.other (by omega) _, ?_, ESh2⟩
                    · have h2 := Hy2.out
                      rw [show decide (0 ≤ L (j + 1)) = true by simpa using h2]
                      exact E15.set (.bool true)
                    · rw [Hy1.out]; exact D2
                  case measure => simp [intOf]; omega
                · obtain ⟨hn1, hn2⟩ := Hn (by omega)
                  have Hn1 := Lib.hid hn1
                  have Hn2 := Lib.hid hn2
                  have Hdrow := Lib.hid drow
                  clear Hy Hn hn1 hn2 hst hgc drow
                  gi_wp2_with fail
                  go_roundw
                  case rel => exact ⟨j + 1, by omega, by go_num, hKO, hEw, d12, d13, by rw [Hn2.out]; exact d15, d16, dw, dh, Lib.hid (by rw [Hn1.out]; exact Hdrow.out), DSh⟩
                  case measure => simp [intOf]; omega
  · have HR : Hid (∀ w', Ext w w' → RetBal l x y S w (.returned (.tuple #[.slice none 0 0, .slice none 0 0, .int .i64 1])) w') := Lib.hid (fun w' hE => ⟨[], [], none, 0, none, 0, by rw [he]; rfl, fun i hi => by simp at hi, fun i hi => by simp at hi, ⟨fun _ => ⟨rfl, rfl⟩, fun h => by rw [hok] at h; simp at h⟩, hE⟩)
    rw [he] at hc
    have Hc := Lib.hid hc
    clear hc he hok
    refine calls_range Try.func51 rfl ?_
    simp only [Try.ntmps51, List.size_toArray, List.length_cons, List.length_nil, Nat.reduceAdd, Nat.reduceSub, Array.replicate_succ, Array.replicate_zero, List.push_toArray, List.append_toArray, List.nil_append, List.cons_append]
    go_wp2_with fail
    refine Hc.out.mono ?_
    rintro e w1 ⟨rfl, hE1⟩
    clear Hc
    go_wp2_with fail
    refine ⟨_, results_tmp3 rfl _ _ _, ?_⟩
    exact HR.out w1 hE1
end Go.Proofs.Ytodlbgncdggimaa
/- Contract of the reference: IsBalance, of what Balance hands back. -/
namespace Go.Proofs.Ytodlbgncdggimaa
open Go.RowKit
attribute [local go_sem] GW.cell Oper.semAt_some wide_depth

set_option maxRecDepth 100000 in
set_option maxHeartbeats 8000000 in
theorem f54_c (a b a2 b2 : Option Addr) (n c m d c2 q d2 : Nat) (l L : List Site) (S O : List Int) (x y : Int) (w : World) (hl : Sites w a l) (hS : Ints w b S) (hL : Sites w a2 L) (hO : Ints w b2 O) (hn : l.length = n) (hm : S.length = m) (hq : O.length = q) (hlen : n ≤ 140737488355328) (hlm : m ≤ 140737488355328)
    (hok : okShared l x y S = true) (h : BalSaid l x y S L O) :
    Calls Try.prog 54 #[.slice a n c, .int .i64 x, .int .i64 y, .slice b m d, .slice a2 n c2, .slice b2 q d2] w fun e w' => e = .returned (.bool true) ∧ Ext w w' := by
  have hLn : L.length = n := by rw [h.len, hn]
  have hsm := h.small
  have hc := f83_c a b n c m d l S x y w hl hS hn hm hlen hlm
  rw [show errOf (okShared l x y S) = 0 by rw [hok]; rfl] at hc
  have hf := fun W (hE : Ext w W) => f26_c a2 b2 n c2 q d2 L O x y W (hL.ext hE) (hO.ext hE) hLn hq hlen (by omega)
  rw [h.fits, show errOf (okOwned L x y O) = 0 by rw [h.ownedL]; rfl] at hf
  have hk := fun W (hE : Ext w W) => f71_c a2 b2 n c2 q d2 O W (hO.ext hE) hq (by omega) (by omega) (by rw [← hn]; exact h.own)
  rw [show countL n O = S by rw [← hn]; exact h.cnt] at hk
  have h19 : ∀ W a1 c1, Ints W a1 S → Ext w W → Calls Try.prog 19 #[.slice a1 m c1, .slice b m d] W fun e w' => e = .returned (.bool true) ∧ Ext W w' := fun W a1 c1 h1 hE =>
    (f19_c a1 b m m c1 d S S W h1 (hS.ext hE) hm hm hlm hlm).mono (by rintro e w' ⟨rfl, h⟩; exact ⟨by simp, h⟩)
  have hsame := h.same
  have hmn : S.length = n := by rw [← h.cnt, countL, countTo_length, hn]
  have Hc := Lib.hid hc
  have Hf := Lib.hid hf
  have Hk := Lib.hid hk
  have H19 := Lib.hid h19
  have Hsame := Lib.hid hsame
  clear hc hf hk h19 hsame hok h hO hS
  go_enter Try.func54, Try.ntmps54
  go_wp2_with fail
  refine Hc.out.mono ?_
  rintro e w1 ⟨rfl, hE1⟩
  clear Hc
  go_wp2_with fail
  go_loopw [13] (fun v13 wr => ∃ j : Nat, j ≤ n ∧ v13 = .int .i64 j ∧ Ext w wr) (fun v13 _ => n - (intOf v13).toNat)
  case atStart => exact ⟨0, Nat.zero_le _, rfl, hE1⟩
  case round =>
    clear hE1
    obtain ⟨j, hj, rfl, hE⟩ := hrel
    by_cases hjn : j < n
    · have h1 : j < L.length := by omega
      have h2 : j < l.length := by omega
      obtain ⟨e1, e2⟩ := Hsame.out j h1 h2
      obtain ⟨b1, o1, ea, hb1, x1, y1, z1⟩ := hl.ext hE j h2
      obtain ⟨b3, o3, eb, hb3, x3, y3, z3⟩ := hL.ext hE j h1
      rw [e1] at x3
      rw [e2] at y3
      subst ea eb
      have hne : (l[j].x != l[j].x) = false := by simp
      have hne2 : (l[j].y != l[j].y) = false := by simp
      clear e1 e2 z1 z3
      go_wp2_with fail
      refine wp_region_ext (by kernel_rfl) (by kernel_rfl) ?_
      repeat (go_big_quiet_step (fail))
      refine wpQuiet_nil ?_
      intro w2 hE2
      go_wp2_with fail
      go_roundw
      case rel => exact ⟨j + 1, by omega, by go_num, hE.trans' hE2⟩
      case measure => simp [intOf]; omega
    · obtain rfl : n = j := by omega
      go_wp2_with fail
      refine (Hf.out _ hE).mono ?_
      rintro e w2 ⟨rfl, hE2⟩
      have hE3 := hE.trans' hE2
      go_wp2_with fail
      refine (Hk.out _ hE3).mono ?_
      rintro e w3 ⟨v, rfl, hrow, hE4⟩
      obtain ⟨a1, c1, rfl, hI⟩ := ints_of_row hrow
      rw [hm]
      have hE5 := hE3.trans' hE4
      go_wp2_with fail
      refine (H19.out _ _ _ hI hE5).mono ?_
      rintro e w4 ⟨rfl, hE6⟩
      go_wp2_with fail
      go_ret
      exact ⟨rfl, hE5.trans' hE6⟩
end Go.Proofs.Ytodlbgncdggimaa
