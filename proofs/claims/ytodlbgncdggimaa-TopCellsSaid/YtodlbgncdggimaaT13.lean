/- Clone and Raise of sites. -/
import Derived.Test.YtodlbgncdggimaaApp
import Derived.Test.YtodlbgncdggimaaTail1
namespace Go.Proofs.Ytodlbgncdggimaa
open Go.RowKit
attribute [local go_sem] GW.cell

theorem f24_c (a : Option Addr) (n c : Nat) (w : World) : Calls Try.prog 24 #[.slice a n c] w fun e w' => e = .returned (.bool (decide (200 < (n : Int)))) ∧ w = w' := by
  go_enter Try.func24, Try.ntmps24
  go_wp2
  go_ret
  exact ⟨rfl, rfl⟩

theorem row_empty (w : World) (e : TypeId) (size : Nat) : (w.alloc (.cells #[] e)).ownsRow w.heap.size e size (.slice (some ⟨w.heap.size, 0, none⟩) 0 0) 0 [] :=
  ⟨by simp, .inr ⟨w.heap.size, 0, #[], rfl, Nat.le_refl _, heap_alloc_new w _, Nat.le_refl _, by unfold maxLen; omega, by simp, by simp⟩⟩

theorem ext_grow {w X Y : World} {base : Nat} {e : TypeId} {size k : Nat} {v : Value} {xs : List Value} (h : Ext w X) (hrow : X.ownsRow base e size v k xs) (hb : w.heap.size ≤ base) (hgrow : X.grownBy Y v.ownBlock) : Ext w Y :=
  h.grown hgrow h.size fun j ej => by
    rcases hrow.2 with ⟨rfl, _⟩ | ⟨g, cap, cur, rfl, hg, _, _⟩
    · simp [Value.ownBlock] at ej
    · obtain rfl : g = j := by simpa [Value.ownBlock] using ej
      exact Nat.le_trans hb hg

set_option maxHeartbeats 1000000 in
theorem f68_c (a : Option Addr) (n c : Nat) (l : List Site) (w : World) (hl : Sites w a l) (hn : l.length = n) (hlen : n ≤ 1000000) :
    Calls Try.prog 68 #[.slice a n c] w fun e w' => ∃ v, e = .returned v ∧ w'.ownsRow w.heap.size 31 3 v n (sitesV l) ∧ Ext w w' := by
  subst hn
  have hnil := fun (w : World) => Lib.run_eql_slice_nil (P := Try.prog) w 22 31 a l.length c 0 0 Try.underlying22
  obtain ⟨i0, hi⟩ := info_parts info31
  have Hi := Lib.hid hi
  clear hi
  cases a with
  | none =>
    have h0 : l = [] := by
      cases l with
      | nil => rfl
      | cons s l => obtain ⟨b, off, h, _⟩ := hl 0 (by simp); cases h
    have H0 := Lib.hid h0
    clear h0 hl Hi
    generalize hn : l.length = n at *
    have Hn := Lib.hid hn
    clear hn
    go_enter Try.func68, Try.ntmps68
    go_wp2_with fail
    go_ret
    refine ⟨_, rfl, ?_, Below.refl _ _⟩
    have e : n = 0 := by rw [← Hn.out, H0.out]; rfl
    rw [e, H0.out]
    exact World.ownsRow_nil _ _ _ _
  | some ad =>
    have hrow := row_empty w 31 3
    have hr := reads_sites (hl.ext (ext_alloc w (.cells #[] 31)))
    have Hrow := Lib.hid hrow
    have Hr := Lib.hid hr
    clear hrow hr
    go_enter Try.func68, Try.ntmps68
    go_wp2_with (at_builtin; refine wpList_append_any _ rfl (.tmp 5) (.tmp 6) 22 rfl w.heap.size 31 i0 _ 3 24 Try.underlying22 Hi.out.1 Hi.out.2.1 Hi.out.2.2.1 Hi.out.2.2.2 rfl (by omega) (.slice (some ⟨w.heap.size, 0, none⟩) 0 0) 0 [] rfl Hrow.out _ (some ad) l.length c (sitesV l) rfl Hr.out (sitesV_one_cell l) (by unfold maxLen; omega) (by omega) (by simp) ?_; intro v' w1 hown hgrow hat)
    go_ret
    exact ⟨_, rfl, by simpa using hown, ext_grow (ext_alloc _ _) Hrow.out (Nat.le_refl _) hgrow⟩

theorem und31 : Try.prog.underlying 31 = some (.struct (Try.prog.fieldsOf 31)) := by kernel_rfl
theorem stood31 : Try.prog.stoodInHeld 31 = false := by kernel_rfl
theorem guard31 : Try.prog.eqGuardType Try.prog.depth 31 = false := by kernel_rfl
def sameB (s t : Site) : Bool := s.x == t.x && (s.y == t.y && s.w == t.w)
theorem sameB_iff {s t : Site} : sameB s t = true ↔ s = t := by
  cases s; cases t; simp [sameB]
def diffB (s t : Site) : Bool := !sameB s t
theorem neq_site (w : World) (s t : Site) : (binOp .neq 31 (sv s) (sv t)).run Try.prog w = .ok (.bool (diffB s t)) w := by
  simp only [run_neq_struct, run_equalIn_agg _ _ _ _ _ und31 stood31]
  have hf : (Try.prog.fieldsOf 31).toList = (match Try.prog.underlying 31 with | some (.struct fs) => fs.toList | _ => []) := by kernel_rfl
  rw [hf, Try.underlying31]
  simp [Op.eqFields, go_sem, sameB, diffB]
  by_cases h1 : s.x = t.x <;> by_cases h2 : s.y = t.y <;> by_cases h3 : s.w = t.w <;> simp [h1, h2, h3]

set_option maxHeartbeats 1000000 in
theorem f29_c (a b : Option Addr) (n m c d : Nat) (l k : List Site) (w : World) (hl : Sites w a l) (hk : Sites w b k) (hn : l.length = n) (hm : k.length = m) (hn1 : n ≤ 1000000) (hm1 : m ≤ 1000000) :
    Calls Try.prog 29 #[.slice a n c, .slice b m d] w fun e w' => e = .returned (.bool (decide (l = k))) ∧ Ext w w' := by
  subst hn hm
  by_cases hlen : l.length = k.length
  · have hne : ((l.length : Int) != (k.length : Int)) = false := by simp [hlen]
    have Hlen := Lib.hid hlen
    clear hlen
    go_enter Try.func29, Try.ntmps29
    go_wp2_with fail
    go_loopw [5] (fun i wr => ∃ j : Nat, j ≤ l.length ∧ i = .int .i64 j ∧ Ext w wr ∧ Hid (∀ q, q < j → l[q]? = k[q]?)) (fun i _ => l.length - (intOf i).toNat)
    case atStart => exact ⟨0, by omega, rfl, Below.refl _ _, fun q hq => by omega⟩
    case round =>
      obtain ⟨j, hj, rfl, hE, H⟩ := hrel
      by_cases hlt : j < l.length
      · have hlt2 : j < k.length := by rw [← Hlen.out]; exact hlt
        obtain ⟨b1, o1, rfl, hb1, x1, y1, w1'⟩ := hl.ext hE j hlt
        obtain ⟨b2, o2, rfl, hb2, x2, y2, w2'⟩ := hk.ext hE j hlt2
        by_cases he : sameB l[j] k[j] = true
        · have He := Lib.hid (sameB_iff.1 he)
          have hb : diffB l[j] k[j] = false := by simp [diffB, he]
          clear he
          have hg := guard31
          have hq := fun W => neq_site W l[j] k[j]
          go_wp2_with fail
          refine wp_region_ext (by kernel_rfl) (by kernel_rfl) ?_
          repeat (go_big_quiet_step (fail))
          refine wpQuiet_nil ?_
          intro w1 hE1
          clear hq hg
          go_wp2_with fail
          go_roundw
          case rel =>
            refine ⟨j + 1, by omega, by go_num, hE.trans' hE1, fun q hq => ?_⟩
            by_cases e : q = j
            · subst e; rw [List.getElem?_eq_getElem hlt, List.getElem?_eq_getElem hlt2, He.out]
            · exact H.out q (by omega)
          case measure => simp [intOf]; omega
        · have hb : diffB l[j] k[j] = true := by simpa [diffB] using he
          have He := Lib.hid he
          clear he
          have hg := guard31
          have hq := fun W => neq_site W l[j] k[j]
          go_wp2_with fail
          refine wp_region_ext (by kernel_rfl) (by kernel_rfl) ?_
          repeat (go_big_quiet_step (fail))
          refine wpQuiet_nil ?_
          intro w1 hE1
          clear hq hg
          go_wp2_with fail
          go_ret
          exact ⟨ret_bool (by symm; rw [decide_eq_false_iff_not]; intro e; subst e; exact He.out (sameB_iff.2 rfl)), hE.trans' hE1⟩
      · obtain rfl : j = l.length := by omega
        go_wp2_with fail
        go_ret
        refine ⟨ret_bool ?_, hE⟩
        symm; rw [decide_eq_true_eq]
        refine List.ext_getElem? fun q => ?_
        rcases Nat.lt_or_ge q l.length with h | h
        · exact H.out q h
        · rw [List.getElem?_eq_none h, List.getElem?_eq_none (by rw [← Hlen.out]; exact h)]
  · have hne : ((l.length : Int) != (k.length : Int)) = true := by simp; omega
    have Hlen := Lib.hid hlen
    clear hlen
    go_enter Try.func29, Try.ntmps29
    go_wp2_with fail
    go_ret
    exact ⟨ret_bool (by symm; rw [decide_eq_false_iff_not]; intro e; subst e; exact Hlen.out rfl), Below.refl _ _⟩
end Go.Proofs.Ytodlbgncdggimaa
