/- line.opened: the atoms with what is left of each. -/
import Derived.Test.YtgnjaapjaglleaaT22
namespace Go.Proofs.Ytgnjaapjaglleaa
open Go.RowKit
attribute [local go_sem] GW.cell

/-- the cells of the opened atoms: place, mass, left -/
def openV (l : List Atom) : List Value := l.flatMap fun s => [.int .i64 s.p, .int .i64 s.m, .int .i64 s.m]
theorem openV_length (l : List Atom) : (openV l).length = l.length * 3 := by
  induction l with
  | nil => rfl
  | cons x l ih => have e : openV (x :: l) = [.int .i64 x.p, .int .i64 x.m, .int .i64 x.m] ++ openV l := by simp [openV]
                   rw [e, List.length_append, ih]; simp; omega
theorem openV_append (l k : List Atom) : openV (l ++ k) = openV l ++ openV k := by simp [openV]
theorem info107 : (Try.prog.info? 107).map (fun i => (i.zero, i.size, i.bytes)) = some (some (.agg #[.int .i64 0, .int .i64 0, .int .i64 0]), 3, 24) := by kernel_rfl
theorem reads_open1 (w : World) (p m : Int) (T : TypeId) : Reads (w.alloc (.cells #[.int .i64 p, .int .i64 m, .int .i64 m] T)) (w.alloc (.cells #[.int .i64 p, .int .i64 m, .int .i64 m] T)).heap.size 3 (some ⟨w.heap.size, 0, none⟩) 1 [.int .i64 p, .int .i64 m, .int .i64 m] :=
  ⟨rfl, fun _ => ⟨_, rfl, by simp, fun j u' hj => by
    match j, hj with
    | 0, hj => simp at hj; subst hj; rw [add_at]; simp
    | 1, hj => simp at hj; subst hj; rw [add_at]; simp
    | 2, hj => simp at hj; subst hj; rw [add_at]; simp
    | j + 3, hj => simp at hj⟩⟩
set_option maxRecDepth 20000 in
set_option maxHeartbeats 4000000 in
theorem f111_c (a : Option Addr) (n c : Nat) (l : List Atom) (w : World) (hl : Atoms w a l) (hn : l.length = n) (hF : Fine l) :
    Calls Try.prog 111 #[.slice a n c] w fun e w' => ∃ v, e = .returned v ∧ w'.ownsRow w.heap.size 107 3 v l.length (openV l) ∧ Ext w w' := by
  subst hn
  obtain ⟨i0, hi⟩ := info_parts info107
  have Hi := Lib.hid hi
  have h40 := hF.1
  clear hi hF
  go_enter Try.func111, Try.ntmps111
  go_wp2_with fail
  go_loopw [3, 8] (fun v i wr => ∃ k : Nat, k ≤ l.length ∧ i = .int .i64 k ∧ Ext w wr ∧ Hid (wr.ownsRow w.heap.size 107 3 v k (openV (l.take k)))) (fun _ i _ => l.length - (intOf i).toNat)
  case atStart => exact ⟨0, Nat.zero_le _, rfl, Below.refl _ _, World.ownsRow_nil _ _ _ _⟩
  case round =>
    obtain ⟨k, hk, rfl, hE, H⟩ := hrel
    by_cases hlt : k < l.length
    · obtain ⟨b, off, rfl, hb, hx, hy⟩ := hl.ext hE k hlt
      have Hs : Hid (openV (l.take (k + 1)) = openV (l.take k) ++ [.int .i64 l[k].p, .int .i64 l[k].m, .int .i64 l[k].m]) := Lib.hid (by
        rw [List.take_succ_eq_append_getElem hlt, openV_append]; rfl)
      generalize l[k].p = pp at *
      generalize l[k].m = mm at *
      have hE1 := hE.trans' (ext_alloc wr (.cells #[.int .i64 pp, .int .i64 mm] 66))
      have H1 := Lib.hid (H.out.alloc (.cells #[.int .i64 pp, .int .i64 mm] 66))
      have hs1 := hE1.size
      have hn := reads_open1 (wr.alloc (.cells #[.int .i64 pp, .int .i64 mm] 66)) pp mm 107
      rw [show (wr.alloc (.cells #[.int .i64 pp, .int .i64 mm] 66)).heap.size = wr.heap.size + 1 by simp] at hn
      have Hn := Lib.hid hn
      clear hn
      go_wp2_with (at_builtin; refine wpList_append_any _ rfl (.tmp 12) (.tmp 17) 104 rfl w.heap.size 107 i0 _ 3 24 Try.underlying104 Hi.out.1 Hi.out.2.1 Hi.out.2.2.1 Hi.out.2.2.2 rfl (by omega) _ k _ rfl (H1.out.alloc _) _ (some ⟨wr.heap.size + 1, 0, none⟩) 1 1 [.int .i64 pp, .int .i64 mm, .int .i64 mm] rfl Hn.out (by simp [Value.oneCell']) (by unfold maxLen; omega) (by omega) (by simp; have := hE.size; omega) ?_; intro v' w9 hown hgrow hat; have hE9 := ext_append hE1 H1.out (Nat.le_refl _) hgrow; have H9 : Hid (w9.ownsRow w.heap.size 107 3 v' (k + 1) (openV (l.take (k + 1)))) := (by rw [Hs.out]; exact hown); clear hat hgrow hown)
      go_roundw
      case rel => exact ⟨k + 1, by omega, by go_num, hE9, H9⟩
      case measure => simp [intOf]; omega
    · obtain rfl : k = l.length := by omega
      have H2 := H.out
      rw [List.take_length] at H2
      obtain ⟨av, cv, rfl⟩ := slice_form H2
      go_wp2_with fail
      go_ret
      exact ⟨_, rfl, H2, hE⟩
end Go.Proofs.Ytgnjaapjaglleaa
