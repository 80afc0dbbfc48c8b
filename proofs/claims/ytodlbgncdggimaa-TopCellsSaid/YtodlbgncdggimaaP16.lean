/- Plain law of TopCells: the cells cost least for their own shares; the balanced sites' owners cost no more than any with the same shares. -/
import Derived.Test.YtodlbgncdggimaaP14
import Derived.Test.YtodlbgncdggimaaT22
namespace Go.Proofs.Ytodlbgncdggimaa
open Go.RowKit

theorem cnt_gi {l : List Site} {O : List Int} (h : OwnIn O l.length) {i : Nat} (hi : i < l.length) : cntO (oF O) i O.length = gi (countL l.length O) i := by
  rw [← cnt_c h i O.length (Nat.le_refl _)]
  unfold gi countL
  rw [countTo_at hi]; rfl
theorem owned_area {l : List Site} {x y : Int} {O : List Int} (h : okOwned l x y O = true) : O.length = x.toNat * y.toNat := by
  obtain ⟨hF, hq, -⟩ := owned_spec h
  obtain ⟨f0, f1, f2, f3, f4⟩ := okField_bd hF
  obtain ⟨wd, rfl⟩ := Int.eq_ofNat_of_zero_le (a := x) (by omega)
  obtain ⟨ht, rfl⟩ := Int.eq_ofNat_of_zero_le (a := y) (by omega)
  rw [Int.toNat_natCast, Int.toNat_natCast]
  have : ((wd * ht : Nat) : Int) = (wd : Int) * (ht : Int) := by simp
  omega
theorem share_of_fits {l : List Site} {x y : Int} {O : List Int} (h : fitsVal l x y O = true) : ShareOf l x.toNat y.toNat (countL l.length O) O := by
  rw [fitsVal, Bool.and_eq_true] at h
  obtain ⟨ho, hf⟩ := h
  obtain ⟨hF, hq, hin⟩ := owned_spec ho
  have hl := owned_area ho
  have h1 := (okSites_len (okField_bd hF).1).1
  refine ⟨hl, fun j hj => hin j hj, ⟨wgAt l, fun k hk j hj => ?_⟩, fun i hi => by rw [← hl]; exact cnt_gi (fun j hj => hin j hj) hi⟩
  have hk' : k < O.length := by rw [hl]; exact hk
  obtain ⟨o1, o2⟩ := oF_lt (n := l.length) (fun j hj => hin j hj) hk'
  rw [fitsB, List.all_eq_true] at hf
  have hfa := of_decide_eq_true (hf k (List.mem_range.2 hk'))
  unfold fitAt at hfa
  have hfa : pw l (pxx x.toNat k) (pxy x.toNat k) (oF O k) = leastP l (pxx x.toNat k) (pxy x.toNat k) := hfa
  have g := (leastP_spec l (pxx x.toNat k) (pxy x.toNat k) h1).1 j hj
  rw [← hfa, pw_in o1, pw_in hj] at g
  rw [wgAt_in o1, wgAt_in hj]
  unfold dC
  rw [sqAt_in o1, sqAt_in hj]
  unfold pow at g
  omega
/-- the cells cost least for their own shares, and their dual is as much -/
theorem cells_said {l : List Site} {x y : Int} (h : okField l x y = true) : okShared l x y (sharesL l x y) = true ∧ dualV l x y (sharesL l x y) = costTo l x.toNat (cellsL l x y) (cellsL l x y).length ∧
    ∀ v, LeastOf l x y (sharesL l x y) v → v = costTo l x.toNat (cellsL l x y) (cellsL l x y).length := by
  have ho := cells_owned h
  have hf := cells_fit h
  rw [shares_ok h]
  have hs := count_shared ho
  refine ⟨hs, (duals_said ho).2.2 hf, fun v hv => least_same hv ⟨(fun h2 => by rw [hs] at h2; cases h2), fun _ => ⟨_, share_of_fits hf, by rw [owned_area ho]⟩⟩⟩
/-- owners with the same shares cost no less than the balanced ones -/
theorem bal_least {l : List Site} {x y : Int} {Q : List Int} {L : List Site} {O : List Int} (hQ : okOwned l x y Q = true) (h : BalOf l x y (countL l.length Q) L O) : costTo l x.toNat O O.length ≤ costTo l x.toNat Q Q.length := by
  obtain ⟨hsh, -⟩ := h.2 (count_shared hQ)
  obtain ⟨-, -, hin⟩ := owned_spec hQ
  have hl := owned_area hQ
  obtain ⟨p, hp⟩ := hsh.fits
  rw [cost_c, cost_c, hsh.len, hl]
  have a : ∀ k, k < x.toNat * y.toNat → oF O k < l.length := fun k hk => (oF_lt hsh.own (by rw [hsh.len]; exact hk)).1
  have b : ∀ k, k < x.toNat * y.toNat → oF Q k < l.length := fun k hk => (oF_lt (n := l.length) (fun j hj => hin j hj) (by rw [hl]; exact hk)).1
  exact fits_least hp a b (fun i hi => by rw [hsh.cnt i hi, ← hl]; exact (cnt_gi (fun j hj => hin j hj) hi).symm)
end Go.Proofs.Ytodlbgncdggimaa
