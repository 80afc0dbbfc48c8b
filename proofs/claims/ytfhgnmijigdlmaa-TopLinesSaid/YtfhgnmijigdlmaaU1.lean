/- Contracts of the top package: at, index, masses. -/
import Derived.Test.YtfhgnmijigdlmaaTr5
import Derived.Test.YtfhgnmijigdlmaaPE
namespace Go.Proofs.Ytfhgnmijigdlmaa.Tr
open Go.RowKit
attribute [local go_sem] GW.cell
set_option maxHeartbeats 4000000 in
theorem f59_at (a : Option Addr) (n c : Nat) (l : List Atom) (p : Int) (k : Nat) (w : World) (hl : Atoms w a l) (hn : l.length = n) (hlen : n ≤ 1000000) (hk : k < n) (hp : (atK l k).p = p) (hne : ∀ j, j < k → (atK l j).p ≠ p) :
    Calls Try.prog 59 #[.slice a n c, .int .i64 p] w fun e w' => e = .returned (.int .i64 (k : Int)) ∧ w = w' := by
  have HA := Lib.hid hl
  have Hn := Lib.hid hn
  have Hp := Lib.hid hp
  have Hne := Lib.hid hne
  clear hl hn hp hne
  go_enter Try.func59, Try.ntmps59
  go_wp2_with fail
  go_loop [5] (fun i => ∃ q : Nat, q ≤ k ∧ i = .int .i64 q) (fun i => k - (intOf i).toNat)
  case atStart => exact ⟨0, Nat.zero_le _, rfl⟩
  case round =>
    obtain ⟨q, hq, rfl⟩ := hrel
    have hqn : q < n := by omega
    obtain ⟨b, o, rfl, hb, hc, -⟩ := HA.out q (by rw [Hn.out]; exact hqn)
    have hql : q < l.length := by rw [Hn.out]; exact hqn
    rw [← atK_at hql] at hc
    clear hql
    by_cases he : q = k
    · subst he
      rw [Hp.out] at hc
      have d : (p == p) = true := by simp
      go_wp2_with fail
      go_ret
      exact ⟨rfl, rfl⟩
    · have hne := Hne.out q (by omega)
      have d : ((atK l q).p == p) = false := by simp [hne]
      clear hne
      generalize (atK l q).p = z at *
      go_wp2_with fail
      go_round
      case rel => exact ⟨q + 1, by omega, by go_num⟩
      case measure => simp [intOf]; omega
set_option maxHeartbeats 4000000 in
theorem f62_at (a : Option Addr) (n c : Nat) (l : List Int) (p : Int) (k : Nat) (w : World) (hl : Ints w a l) (hn : l.length = n) (hlen : n ≤ 1000000) (hk : k < n) (hp : gi l k = p) (hne : ∀ j, j < k → gi l j ≠ p) :
    Calls Try.prog 62 #[.slice a n c, .int .i64 p] w fun e w' => e = .returned (.int .i64 (k : Int)) ∧ w = w' := by
  have HA := Lib.hid hl
  have Hn := Lib.hid hn
  have Hp := Lib.hid hp
  have Hne := Lib.hid hne
  clear hl hn hp hne
  go_enter Try.func62, Try.ntmps62
  go_wp2_with fail
  go_loop [5] (fun i => ∃ q : Nat, q ≤ k ∧ i = .int .i64 q) (fun i => k - (intOf i).toNat)
  case atStart => exact ⟨0, Nat.zero_le _, rfl⟩
  case round =>
    obtain ⟨q, hq, rfl⟩ := hrel
    have hqn : q < n := by omega
    obtain ⟨b, o, rfl, hb, hc⟩ := HA.out q (by rw [Hn.out]; exact hqn)
    rw [← gi_at] at hc
    by_cases he : q = k
    · subst he
      rw [Hp.out] at hc
      have d : (p == p) = true := by simp
      go_wp2_with fail
      go_ret
      exact ⟨rfl, rfl⟩
    · have hne := Hne.out q (by omega)
      have d : (gi l q == p) = false := by simp [hne]
      clear hne
      generalize gi l q = z at *
      go_wp2_with fail
      go_round
      case rel => exact ⟨q + 1, by omega, by go_num⟩
      case measure => simp [intOf]; omega
/-- the masses of the first k atoms -/
def masTo (l : List Atom) (k : Nat) : List Int := (List.range k).map fun i => (atK l i).m
def masL (l : List Atom) : List Int := masTo l l.length
theorem masTo_succ (l : List Atom) (k : Nat) : masTo l (k + 1) = masTo l k ++ [(atK l k).m] := by simp [masTo, List.range_succ]
theorem masTo_length (l : List Atom) (k : Nat) : (masTo l k).length = k := by simp [masTo]
theorem masL_gi {l : List Atom} {i : Nat} (h : i < l.length) : gi (masL l) i = (atK l i).m := by simp [masL, masTo, gi, h]
/-- a row that grows -/
def RowN (W : World) (B : Nat) (v : Value) (l : List Int) : Prop := W.ownsRow B 3 1 v l.length (l.map (.int .i64))
def RetM (l : List Atom) (n : Nat) (w : World) (e : Ending) (w' : World) : Prop := ∃ a c, e = .returned (.slice a n c) ∧ Ints w' a (masL l) ∧ Ext w w'
set_option maxHeartbeats 4000000 in
theorem f57_c (a : Option Addr) (n c : Nat) (l : List Atom) (w : World) (hl : Atoms w a l) (hn : l.length = n) (hlen : n ≤ 1000) :
    Calls Try.prog 57 #[.slice a n c] w (RetM l n w) := by
  have Hi : Hid (∃ i, Try.prog.info? 3 = some i ∧ i.zero = some (.int .i64 0) ∧ i.size = 1 ∧ i.bytes = 8) := Lib.hid (info_parts info3)
  obtain ⟨i0, hi0⟩ := Hi.out
  have HI := Lib.hid hi0
  have HA := Lib.hid hl
  have Hn := Lib.hid hn
  unfold RetM
  clear hl hn hi0 Hi
  go_enter Try.func57, Try.ntmps57
  go_wp2_with fail
  go_loopw [3, 4] (fun v i wr => ∃ q : Nat, q ≤ n ∧ i = .int .i64 q ∧ Ext w wr ∧ Hid (RowN wr w.heap.size v (masTo l q))) (fun _ i _ => n - (intOf i).toNat)
  case atStart => exact ⟨0, Nat.zero_le _, rfl, Below.refl _ _, World.ownsRow_nil _ _ _ _⟩
  case round =>
    obtain ⟨q, hq, rfl, hX, HR⟩ := hrel
    by_cases hlt : q < n
    case neg =>
      obtain rfl : q = n := by omega
      have hR := HR.out
      unfold RowN at hR
      obtain ⟨ad, cp, rfl, hI⟩ := ints_of_row hR
      have HF : Hid (Ints wr ad (masL l)) := Lib.hid (by unfold masL; rw [Hn.out]; exact hI)
      rw [masTo_length]
      clear hI hR HR
      go_wp2_with fail
      go_ret
      exact ⟨_, _, rfl, HF.out, hX⟩
    obtain ⟨b, o, rfl, hb, -, hc⟩ := HA.out.ext hX q (by rw [Hn.out]; exact hlt)
    have hql : q < l.length := by rw [Hn.out]; exact hlt
    rw [← atK_at hql] at hc
    have hR := HR.out
    unfold RowN at hR
    rw [masTo_length] at hR
    obtain ⟨av, cv, rfl⟩ := slice_form hR
    have HRr := Lib.hid hR
    clear hR
    have Hs : Hid (masTo l (q + 1) = masTo l q ++ [(atK l q).m]) := Lib.hid (masTo_succ l q)
    have hsz := hX.size
    clear hql HR
    generalize (atK l q).m = z at *
    obtain ⟨wo, rfl⟩ : ∃ wo : World, wo = wr := ⟨_, rfl⟩
    go_wp2_with (at_builtin; refine wpList_push1 (x := z) rfl (.tmp 11) (.tmp 17) 31 rfl HI.out Try.underlying31 rfl rfl HRr.out (by omega) (by omega) ?_; intro v' w' hown hgrow hat; have hX1 := ext_grow (hX.trans' (ext_alloc _ _)) (HRr.out.alloc _) (Nat.le_refl _) hgrow; have HR2 : Hid (RowN w' w.heap.size v' (masTo l (q + 1))) := Lib.hid (by unfold RowN; rw [masTo_length, Hs.out]; exact hown); clear hown hgrow hat)
    go_roundw
    case rel => exact ⟨q + 1, by omega, by go_num, hX1, HR2⟩
    case measure => simp [intOf]; omega
end Go.Proofs.Ytfhgnmijigdlmaa.Tr
