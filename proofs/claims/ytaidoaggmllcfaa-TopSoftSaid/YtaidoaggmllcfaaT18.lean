/- Contracts of layer 6: Clone. -/
import Derived.Test.YtaidoaggmllcfaaT17
namespace Go.Proofs.Ytaidoaggmllcfaa
open Go.RowKit
attribute [local go_sem] GW.cell

theorem eq_nil31 (a : Addr) (l c : Nat) (w : World) : (binOp .eql 31 (.slice (some a) l c) (.slice none 0 0)).run Try.prog w = .ok (.bool false) w := by
  simp only [binOp]
  simp [run_equal_slice_nil w 31 3 (some a) l c Try.underlying31]
attribute [local go_sem] eq_nil31
set_option maxRecDepth 20000 in
set_option maxHeartbeats 4000000 in
theorem f111_c (b off n c : Nat) (l : List Int) (w : World) (hl : Ints w (some ⟨b, off, none⟩) l) (hn : l.length = n) (hlen : n ≤ 1000000) :
    Calls Try.prog 111 #[.slice (some ⟨b, off, none⟩) n c] w (RetO l w) := by
  subst hn
  obtain ⟨i0, hi0⟩ := infoI
  have Hi := Lib.hid hi0
  have Hr := Lib.hid (reads_ints (hl.ext (ext_alloc w (.cells #[] 3))))
  have Hrow := Lib.hid (row_empty w 3 1)
  clear hi0
  go_enter Try.func111, Try.ntmps111
  go_wp2_with (at_builtin; refine wpList_append_any _ rfl (.tmp 5) (.tmp 6) 31 rfl w.heap.size 3 i0 (.int .i64 0) 1 8 Try.underlying31 Hi.out.1 Hi.out.2.1 Hi.out.2.2.1 Hi.out.2.2.2 rfl (by omega) (.slice (some ⟨w.heap.size, 0, none⟩) 0 0) 0 [] rfl Hrow.out _ (some ⟨b, off, none⟩) l.length c (l.map (.int .i64)) rfl Hr.out ints_one (by unfold maxLen; omega) (by omega) (by simp) ?_; intro v1 w1 hown hgrow hat; have hX1 := ext_grow (ext_alloc _ _) Hrow.out (Nat.le_refl _) hgrow; rw [Nat.zero_add, List.nil_append] at hown; obtain ⟨a8, c8, rfl⟩ := slice_form hown; have Hown := Lib.hid hown; clear hown hgrow hat)
  go_ret
  exact ⟨_, rfl, Hown.out, hX1⟩

end Go.Proofs.Ytaidoaggmllcfaa
