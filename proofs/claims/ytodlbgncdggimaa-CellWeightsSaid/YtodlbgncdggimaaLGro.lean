/- CellGrows: the law's walk. -/
import Derived.Test.YtodlbgncdggimaaP2
import Derived.Test.YtodlbgncdggimaaLAlk
namespace Go.Proofs.Ytodlbgncdggimaa
open Go.RowKit
attribute [local go_sem] GW.cell

theorem errOf_cases (b : Bool) : (b = true ∧ errOf b = 0) ∨ (b = false ∧ errOf b = 1) := by cases b <;> simp [errOf]

set_option maxHeartbeats 4000000 in
theorem lawGrows (w : World) (a : Option Addr) (n c : Nat) (l : List Site) (hl : Sites w a l) (hn : l.length = n) (x y i d z : Int) :
    Calls Try.prog 7 #[.slice a n c, .agg #[.int .i64 x, .int .i64 y], .agg #[.int .i64 i, .int .i64 d, .int .i64 z]] w fun e w' => e = .returned (.bool true) ∧ Ext w w' := by
  subst hn
  have hEb := (ext_alloc w (.cells #[.int .i64 x, .int .i64 y] 24)).trans' (ext_alloc _ (.cells #[.int .i64 i, .int .i64 d, .int .i64 z] 35))
  by_cases h40 : 40 < l.length
  · have hd : decide (40 < (l.length : Int)) = true := by simp; omega
    go_enter Try.func7, Try.ntmps7
    go_wp2_with fail
    refine (f17_c _).mono ?_
    rintro e w1 ⟨rfl, hE⟩
    go_wp2_with fail
    go_ret
    exact ⟨rfl, hEb.trans' hE⟩
  have hd40 : decide (40 < (l.length : Int)) = false := by simp; omega
  by_cases hd0 : d < 0
  · have hd1 : decide (d < 0) = true := by simpa using hd0
    clear hd0
    go_enter Try.func7, Try.ntmps7
    go_wp2_with fail
    refine (f17_c _).mono ?_
    rintro e w1 ⟨rfl, hE⟩
    go_wp2_with fail
    go_ret
    exact ⟨rfl, hEb.trans' hE⟩
  have hd1 : decide (d < 0) = false := by simpa using hd0
  have hlen : l.length ≤ 1000000 := by omega
  have hc := fun W (h : Sites W a l) => f18_c a l.length c l x y W h rfl (by omega)
  have hr := fun W (h : Sites W a l) => f27_c a l.length c l i d W h rfl hlen
  have Heb := Lib.hid hEb
  clear hEb
  rcases raise_cases l i d with ⟨her, k, hk, rfl, hby, hm⟩ | her
  · simp only [her, hm] at hr
    rcases errOf_cases (okField l x y) with ⟨hok, he⟩ | ⟨hok, he⟩
    · obtain ⟨hok2, hle, hgr⟩ := cells_raised hk (by omega) hok hby
      have hc3 := fun W am cm (h : Sites W am (l.set k (upw l[k] d))) => f18_c am (l.set k (upw l[k] d)).length cm _ x y W h rfl (by rw [set_length]; omega)
      have he2 : errOf (okField (l.set k (upw l[k] d)) x y) = 0 := by rw [hok2]; rfl
      simp only [he2] at hc3
      simp only [he] at hc
      have Hc := Lib.hid hc
      have Hr := Lib.hid hr
      have Hc3 := Lib.hid hc3
      have Hgr := Lib.hid hgr
      have Hle := Lib.hid hle
      have hmax := cells_len l x y
      clear hc hr hc3 hgr hok he her he2 hok2
      generalize hA : cellsL l x y = A at *
      generalize hB : cellsL (l.set k (upw l[k] d)) x y = B at *
      generalize hM : l.set k (upw l[k] d) = m at *
      have hne : ((A.length : Int) != (B.length : Int)) = false := by rw [Hle.out]; simp
      clear hle hA hB hM hm hby
      go_enter Try.func7, Try.ntmps7
      go_wp2_with fail
      refine (Hr.out _ (hl.ext Heb.out)).mono ?_
      rintro e w1 ⟨v, rfl, hrow, hE1⟩
      obtain ⟨am, cm, rfl, hm⟩ := sites_of_row hrow
      have g0 : w1.cell? ⟨w.heap.size, 0, none⟩ = some (.int .i64 x) := (hE1.cell' (by simp; omega)).trans (by simp)
      have g1 : w1.cell? ⟨w.heap.size, 1, none⟩ = some (.int .i64 y) := (hE1.cell' (by simp; omega)).trans (by simp)
      have g2 : w1.cell? ⟨w.heap.size + 1, 0, none⟩ = some (.int .i64 k) := (hE1.cell' (by simp)).trans (by simp)
      have hsz := hE1.size
      simp only [World.size_alloc] at hsz
      have hE1' := Heb.out.trans' hE1
      clear hrow hE1 Heb Hr
      go_wp2_with fail
      refine (Hc.out _ (hl.ext hE1')).mono ?_
      rintro e w2 ⟨a1, c1, rfl, hI1, hE2⟩
      have g0' := (hE2.cell' (by omega)).trans g0
      have g1' := (hE2.cell' (by omega)).trans g1
      clear Hc
      go_wp2_with fail
      refine (Hc3.out _ _ _ (hm.ext hE2)).mono ?_
      rintro e w3 ⟨a2, c2, rfl, hI2, hE3⟩
      have g2' := ((hE2.trans' hE3).cell' (by omega)).trans g2
      have hE3' := hE1'.trans' (hE2.trans' hE3)
      have hI1' := hI1.ext hE3
      have hsz3 := (hE2.trans' hE3).size
      clear Hc3 g0 g1 g0' g1' hI1 hm hE1' hE2 hE3 g2
      go_wp2_with fail
      go_loopw [13] (fun i wr => ∃ p : Nat, p ≤ A.length ∧ i = .int .i64 p ∧ Ext w3 wr) (fun i _ => A.length - (intOf i).toNat)
      case atStart => exact ⟨0, by omega, rfl, Below.refl _ _⟩
      case round =>
        obtain ⟨p, hp, rfl, hE⟩ := hrel
        by_cases hlt : p < A.length
        · have hlt2 : p < B.length := by have := Hle.out; omega
          have hg := Hgr.out p hlt
          obtain ⟨b1, o1, rfl, hb1, hc1⟩ := hI1'.ext hE p hlt
          obtain ⟨b2, o2, rfl, hb2, hc2⟩ := hI2.ext hE p hlt2
          have g2'' := (hE.cell' (by omega)).trans g2'
          have hs1 : w.heap.size + 1 < wr.heap.size := by have := hE.size; omega
          generalize A[p]?.getD 0 = pa at *
          generalize B[p]?.getD 0 = pb at *
          by_cases heq : pa = pb
          · have hb : (pa != pb) = false := by simp [heq]
            clear hg heq
            go_wp2_with fail
            refine wp_region_ext (by kernel_rfl) (by kernel_rfl) ?_
            repeat (go_big_quiet_step (fail))
            refine wpQuiet_nil ?_
            intro w1 hE1
            go_wp2_with fail
            go_roundw
            case rel => exact ⟨p + 1, by omega, by go_num, hE.trans' hE1⟩
            case measure => simp [intOf]; omega
          · have hb : (pa != pb) = true := by simp [heq]
            have hb2 : (pb != (k : Int)) = false := by
              rcases hg with h | h
              · exact absurd h heq
              · simp [h]
            clear hg heq
            go_wp2_with fail
            refine wp_region_ext (by kernel_rfl) (by kernel_rfl) ?_
            repeat (go_big_quiet_step (fail))
            refine wpQuiet_nil ?_
            intro w1 hE1
            go_wp2_with fail
            go_roundw
            case rel => exact ⟨p + 1, by omega, by go_num, hE.trans' hE1⟩
            case measure => simp [intOf]; omega
        · obtain rfl : p = A.length := by omega
          go_wp2_with fail
          refine (f17_c _).mono ?_
          rintro e w5 ⟨rfl, hE5⟩
          go_wp2_with fail
          go_ret
          exact ⟨rfl, hE3'.trans' (hE.trans' hE5)⟩
    · simp only [he] at hc
      have Hc := Lib.hid hc
      have Hr := Lib.hid hr
      clear hc hr hok he her hby
      generalize hM : l.set k (upw l[k] d) = m at *
      clear hM hm
      go_enter Try.func7, Try.ntmps7
      go_wp2_with fail
      refine (Hr.out _ (hl.ext Heb.out)).mono ?_
      rintro e w1 ⟨v, rfl, hrow, hE1⟩
      have g0 : w1.cell? ⟨w.heap.size, 0, none⟩ = some (.int .i64 x) := (hE1.cell' (by simp; omega)).trans (by simp)
      have g1 : w1.cell? ⟨w.heap.size, 1, none⟩ = some (.int .i64 y) := (hE1.cell' (by simp; omega)).trans (by simp)
      have hsz := hE1.size
      simp only [World.size_alloc] at hsz
      have hE1' := Heb.out.trans' hE1
      clear hrow hE1 Heb Hr
      go_wp2_with fail
      refine (Hc.out _ (hl.ext hE1')).mono ?_
      rintro e w2 ⟨a1, c1, rfl, hI1, hE2⟩
      clear Hc
      go_wp2_with fail
      refine (f17_c _).mono ?_
      rintro e w5 ⟨rfl, hE5⟩
      go_wp2_with fail
      go_ret
      exact ⟨rfl, hE1'.trans' (hE2.trans' hE5)⟩
  · have hne : (raiseErr l i d != 0) = true := by rcases her with h | h <;> rw [h] <;> rfl
    clear her
    generalize raiseErr l i d = er at *
    have Hc := Lib.hid hc
    have Hr := Lib.hid hr
    clear hc hr
    generalize errOf (okField l x y) = ef at *
    go_enter Try.func7, Try.ntmps7
    go_wp2_with fail
    refine (Hr.out _ (hl.ext Heb.out)).mono ?_
    rintro e w1 ⟨v, rfl, hrow, hE1⟩
    have g0 : w1.cell? ⟨w.heap.size, 0, none⟩ = some (.int .i64 x) := (hE1.cell' (by simp; omega)).trans (by simp)
    have g1 : w1.cell? ⟨w.heap.size, 1, none⟩ = some (.int .i64 y) := (hE1.cell' (by simp; omega)).trans (by simp)
    have hsz := hE1.size
    simp only [World.size_alloc] at hsz
    have hE1' := Heb.out.trans' hE1
    clear hrow hE1 Heb Hr
    go_wp2_with fail
    refine (Hc.out _ (hl.ext hE1')).mono ?_
    rintro e w2 ⟨a1, c1, rfl, hI1, hE2⟩
    clear Hc
    go_wp2_with fail
    refine (f17_c _).mono ?_
    rintro e w5 ⟨rfl, hE5⟩
    go_wp2_with fail
    go_ret
    exact ⟨rfl, hE1'.trans' (hE2.trans' hE5)⟩
end Go.Proofs.Ytodlbgncdggimaa
