/- Contracts of the line's reference: totals, heaps, places, the least. -/
import Derived.Test.YtfhgnmijigdlmaaT10
namespace Go.Proofs.Ytfhgnmijigdlmaa
open Go.RowKit
attribute [local go_sem] GW.cell
theorem retI_nil {w w' : World} {e : Int} (hE : Ext w w') : RetInts [] e w (.returned (.tuple #[.slice none 0 0, .int .i64 e])) w' := retInts_nil hE
def plV (a b : List Atom) : List Int := if bothErr a b = 0 then placesL2 a b else []
set_option maxHeartbeats 2000000 in
theorem f21_c (a1 a2 : Option Addr) (n c n2 c2 : Nat) (a b : List Atom) (w : World) (hl : Atoms w a1 a) (hn : a.length = n) (hlen : n ≤ 140737488355328) (hm : Atoms w a2 b) (hn2 : b.length = n2) (hlen2 : n2 ≤ 140737488355328) :
    Calls Try.prog 21 #[.slice a1 n c, .slice a2 n2 c2] w (RetInts (plV a b) (bothErr a b) w) := by
  have C1 := f64_c a1 a2 n c n2 c2 a b w hl hn hlen hm hn2 hlen2
  unfold plV
  by_cases h0 : bothErr a b = 0
  case neg =>
    have hb : (bothErr a b != 0) = true := by simp [h0]
    rw [if_neg h0]
    have C1 := Lib.hid C1
    clear h0 hn hn2
    generalize bothErr a b = E at *
    go_enter Try.func21, Try.ntmps21
    go_wp2_with fail
    refine C1.out.mono ?_
    rintro e w1 ⟨rfl, hE1⟩
    go_wp2_with fail
    go_ret2
    exact retInts_nil hE1
  obtain ⟨v1, v2⟩ := bothErr_ok h0
  have C2 := Lib.hid (fun W (h : Ext w W) => f68_c a1 a2 n c n2 c2 a b W (hl.ext h) hn (hm.ext h) hn2 v1 v2)
  rw [if_pos h0]
  rw [h0] at C1 ⊢
  have C1 := Lib.hid C1
  clear h0 hn hn2 v1 v2
  generalize placesL2 a b = L at *
  go_enter Try.func21, Try.ntmps21
  go_wp2_with fail
  refine C1.out.mono ?_
  rintro e w1 ⟨rfl, hE1⟩
  go_wp2_with fail
  refine (C2.out _ hE1).mono ?_
  rintro e w2 ⟨aL, cL, rfl, hI, hE2⟩
  have hf := Lib.hid (show RetInts L 0 w (.returned (.tuple #[.slice aL L.length cL, .int .i64 0])) w2 from ⟨aL, cL, rfl, hI, hE1.trans' hE2⟩)
  clear hI
  go_wp2_with fail
  go_ret2
  exact hf.out
theorem placesTo_len (a b : List Atom) : ∀ n, (placesTo a b n).length ≤ n
  | 0 => by simp [placesTo]
  | n + 1 => by
    have := placesTo_len a b n
    rw [placesTo_succ]
    split
    · rw [List.length_append]; simp; omega
    · omega
set_option maxRecDepth 20000 in
set_option maxHeartbeats 4000000 in
theorem f70_c (a1 a2 : Option Addr) (n c n2 c2 : Nat) (a b : List Atom) (w : World) (hl : Atoms w a1 a) (hn : a.length = n) (hlen : n ≤ 1000000) (hm : Atoms w a2 b) (hn2 : b.length = n2) (hlen2 : n2 ≤ 1000000) :
    Calls Try.prog 70 #[.slice a1 n c, .slice a2 n2 c2] w (RetI (placesL2 a b) w) := by
  have C1 := Lib.hid (fun p W (h : Ext w W) => f77_c a1 n c a p W (hl.ext h) hn hlen)
  have C2 := Lib.hid (fun p W (h : Ext w W) => f77_c a2 n2 c2 b p W (hm.ext h) hn2 hlen2)
  have Hle := Lib.hid (fun k => placesTo_len a b k)
  have Hs := Lib.hid (fun k => placesTo_succ a b k)
  have Ho : Hid (∀ p, onPlace a b p = (decide (0 < massAt a p) || decide (0 < massAt b p))) := Lib.hid (fun p => rfl)
  have H0 : Hid (placesTo a b 0 = []) := Lib.hid rfl
  have H1 : Hid (placesL2 a b = placesTo a b 2001) := Lib.hid rfl
  obtain ⟨i0, hi0⟩ := info_parts infoI
  have Hi := Lib.hid hi0
  clear hi0 hn hn2
  generalize placesL2 a b = LL at *
  generalize placesTo a b = PT at *
  generalize onPlace a b = OP at *
  generalize massAt a = MA at *
  generalize massAt b = MB at *
  go_enter Try.func70, Try.ntmps70
  go_wp2_with fail
  go_loopw [5, 6] (fun v i wr => ∃ k : Nat, k ≤ 2001 ∧ i = .int .i64 ((k : Int) - 1000) ∧ Ext w wr ∧ Hid (wr.ownsRow w.heap.size 3 1 v (PT k).length ((PT k).map (.int .i64)))) (fun _ i _ => (1001 - intOf i).toNat)
  case atStart => exact ⟨0, Nat.zero_le _, rfl, Below.refl _ _, by rw [H0.out]; exact World.ownsRow_nil _ _ _ _⟩
  case round =>
    obtain ⟨k, hk, rfl, hE, H⟩ := hrel
    by_cases hlt : k < 2001
    · have hlt2 : (k : Int) - 1000 ≤ 1000 := by omega
      have hs := Hs.out k
      have ho := Ho.out (thr k)
      have et : thr k = (k : Int) - 1000 := rfl
      rw [et] at hs ho
      have hle := Hle.out k
      by_cases hA : 0 < MA ((k : Int) - 1000)
      · have d1 : decide (0 < MA ((k : Int) - 1000)) = true := by simpa using hA
        rw [d1] at ho
        rw [ho, if_pos (by simp)] at hs
        have Hs2 := Lib.hid hs
        clear hs ho hA et
        have Hn := Lib.hid (reads_ints (ints_new1 w ((k : Int) - 1000) 3 _ rfl))
        go_wp2_with fail
        refine (C1.out _ _ hE).mono ?_
        rintro e w' ⟨rfl, rfl⟩
        have Hn := Lib.hid (reads_ints (ints_new1 wr ((k : Int) - 1000) 3 _ rfl))
        have hsz := hE.size
        go_wp2_with (at_builtin; refine wpList_append_any _ rfl (.tmp 21) (.tmp 23) 31 rfl w.heap.size 3 i0 (.int .i64 0) 1 8 Try.underlying31 Hi.out.1 Hi.out.2.1 Hi.out.2.2.1 Hi.out.2.2.2 rfl (by omega) _ (PT k).length _ rfl (H.out.alloc _) _ (some ⟨wr.heap.size, 0, none⟩) 1 1 ([(k : Int) - 1000].map (.int .i64)) rfl Hn.out (by simp [Value.oneCell']) (by unfold maxLen; omega) (by omega) (by simp; omega) ?_; intro v' w4 hown hgrow hat; have hE4 := ext_append hE H.out (Nat.le_refl _) hgrow; rw [← List.map_append] at hown; have H4 : Hid (w4.ownsRow w.heap.size 3 1 v' (PT (k + 1)).length ((PT (k + 1)).map (.int .i64))) := (by rw [Hs2.out, List.length_append]; exact hown); clear hat hgrow hown)
        go_roundw
        case rel => exact ⟨k + 1, by omega, by congr 1 <;> omega, hE4, H4⟩
        case measure => simp [intOf]; omega
      have d1 : decide (0 < MA ((k : Int) - 1000)) = false := by simpa using hA
      rw [d1, Bool.false_or] at ho
      by_cases hB : 0 < MB ((k : Int) - 1000)
      · have d2 : decide (0 < MB ((k : Int) - 1000)) = true := by simpa using hB
        rw [d2] at ho
        rw [ho, if_pos (by simp)] at hs
        have Hs2 := Lib.hid hs
        clear hs ho hA hB et
        go_wp2_with fail
        refine (C1.out _ _ hE).mono ?_
        rintro e w' ⟨rfl, rfl⟩
        go_wp2_with fail
        refine (C2.out _ _ hE).mono ?_
        rintro e w' ⟨rfl, rfl⟩
        have Hn := Lib.hid (reads_ints (ints_new1 wr ((k : Int) - 1000) 3 _ rfl))
        have hsz := hE.size
        go_wp2_with (at_builtin; refine wpList_append_any _ rfl (.tmp 21) (.tmp 23) 31 rfl w.heap.size 3 i0 (.int .i64 0) 1 8 Try.underlying31 Hi.out.1 Hi.out.2.1 Hi.out.2.2.1 Hi.out.2.2.2 rfl (by omega) _ (PT k).length _ rfl (H.out.alloc _) _ (some ⟨wr.heap.size, 0, none⟩) 1 1 ([(k : Int) - 1000].map (.int .i64)) rfl Hn.out (by simp [Value.oneCell']) (by unfold maxLen; omega) (by omega) (by simp; omega) ?_; intro v' w4 hown hgrow hat; have hE4 := ext_append hE H.out (Nat.le_refl _) hgrow; rw [← List.map_append] at hown; have H4 : Hid (w4.ownsRow w.heap.size 3 1 v' (PT (k + 1)).length ((PT (k + 1)).map (.int .i64))) := (by rw [Hs2.out, List.length_append]; exact hown); clear hat hgrow hown)
        go_roundw
        case rel => exact ⟨k + 1, by omega, by congr 1 <;> omega, hE4, H4⟩
        case measure => simp [intOf]; omega
      have d2 : decide (0 < MB ((k : Int) - 1000)) = false := by simpa using hB
      rw [d2] at ho
      rw [ho, if_neg (by simp)] at hs
      have Hs2 := Lib.hid hs
      clear hs ho hA hB et
      go_wp2_with fail
      refine (C1.out _ _ hE).mono ?_
      rintro e w' ⟨rfl, rfl⟩
      go_wp2_with fail
      refine (C2.out _ _ hE).mono ?_
      rintro e w' ⟨rfl, rfl⟩
      go_wp2_with fail
      go_roundw
      case rel => exact ⟨k + 1, by omega, by congr 1 <;> omega, hE, by rw [Hs2.out]; exact H⟩
      case measure => simp [intOf]; omega
    · obtain rfl : k = 2001 := by omega
      obtain ⟨ad, cp, rfl, hI⟩ := ints_of_row H.out
      have hlt2 : ¬ ((2001 : Nat) : Int) - 1000 ≤ 1000 := by omega
      rw [← H1.out] at hI
      have Hf := Lib.hid (show RetI LL w (.returned (.slice ad (PT 2001).length cp)) wr from ⟨ad, cp, by rw [H1.out], hI, hE⟩)
      clear H hI
      go_wp2_with fail
      go_ret
      exact Hf.out
set_option maxHeartbeats 2000000 in
theorem f22_c (a1 a2 : Option Addr) (n c n2 c2 : Nat) (a b : List Atom) (w : World) (hl : Atoms w a1 a) (hn : a.length = n) (hlen : n ≤ 1000000) (hm : Atoms w a2 b) (hn2 : b.length = n2) (hlen2 : n2 ≤ 1000000) :
    Calls Try.prog 22 #[.slice a1 n c, .slice a2 n2 c2] w (RetInts (plV a b) (bothErr a b) w) := by
  have C1 := f69_c a1 a2 n c n2 c2 a b w hl hn (by omega) hm hn2 (by omega)
  unfold plV
  by_cases h0 : bothErr a b = 0
  case neg =>
    have hb : (bothErr a b != 0) = true := by simp [h0]
    rw [if_neg h0]
    have C1 := Lib.hid C1
    clear h0 hn hn2
    generalize bothErr a b = E at *
    go_enter Try.func22, Try.ntmps22
    go_wp2_with fail
    refine C1.out.mono ?_
    rintro e w1 ⟨rfl, hE1⟩
    go_wp2_with fail
    go_ret2
    exact retInts_nil hE1
  have C2 := Lib.hid (fun W (h : Ext w W) => f70_c a1 a2 n c n2 c2 a b W (hl.ext h) hn hlen (hm.ext h) hn2 hlen2)
  rw [if_pos h0]
  rw [h0] at C1 ⊢
  have C1 := Lib.hid C1
  clear h0 hn hn2
  generalize placesL2 a b = L at *
  go_enter Try.func22, Try.ntmps22
  go_wp2_with fail
  refine C1.out.mono ?_
  rintro e w1 ⟨rfl, hE1⟩
  go_wp2_with fail
  refine (C2.out _ hE1).mono ?_
  rintro e w2 ⟨aL, cL, rfl, hI, hE2⟩
  have hf := Lib.hid (show RetInts L 0 w (.returned (.tuple #[.slice aL L.length cL, .int .i64 0])) w2 from ⟨aL, cL, rfl, hI, hE1.trans' hE2⟩)
  clear hI
  go_wp2_with fail
  go_ret2
  exact hf.out
/-! equal lists -/
theorem f25_eq (a1 a2 : Option Addr) (n c n2 c2 : Nat) (l : List Int) (w : World) (hl : Ints w a1 l) (hn : l.length = n) (hlen : n ≤ 1000000) (hm : Ints w a2 l) (hn2 : l.length = n2) :
    Calls Try.prog 25 #[.slice a1 n c, .slice a2 n2 c2] w fun e w' => e = .returned (.bool true) ∧ Ext w w' := by
  subst hn hn2
  go_enter Try.func25, Try.ntmps25
  go_wp2_with fail
  go_loopw [5] (fun i wr => ∃ k : Nat, k ≤ l.length ∧ i = .int .i64 k ∧ Ext w wr) (fun i _ => l.length - (intOf i).toNat)
  case atStart => exact ⟨0, Nat.zero_le _, rfl, Below.refl _ _⟩
  case round =>
    obtain ⟨k, hk, rfl, hE⟩ := hrel
    by_cases hlt : k < l.length
    · obtain ⟨b, off, rfl, hb, hc⟩ := hl.ext hE k hlt
      obtain ⟨b', off', rfl, hb', hc'⟩ := hm.ext hE k hlt
      generalize l[k]?.getD 0 = x at *
      go_wp2_with fail
      refine wp_region_ext (by kernel_rfl) (by kernel_rfl) ?_
      repeat (go_big_quiet_step (fail))
      refine wpQuiet_nil ?_
      intro w1 hE1
      go_wp2_with fail
      go_roundw
      case rel => exact ⟨k + 1, by omega, by go_num, hE.trans' hE1⟩
      case measure => simp [intOf]; omega
    · obtain rfl : k = l.length := by omega
      go_wp2_with fail
      go_ret
      exact ⟨rfl, hE⟩
end Go.Proofs.Ytfhgnmijigdlmaa
