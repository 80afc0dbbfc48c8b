/- Plain words of wide nets: the distances of a net of roads. No program in sight. -/
import Derived.Test.YtbejgbflipoboaaP3
import Derived.Test.YtbejgbflipoboaaP4
namespace Go.Proofs.Ytbejgbflipoboaa

theorem chn_pot {α : Type} {A : Arcs α} {L : List α} {p : Nat → Int} {N : Nat} {b : Nat → Option α} (hp : A.Pot L p) (hb : ∀ v, v < N → ∀ s, b v = some s → s ∈ L ∧ A.to s = v ∧ A.fr s < N) {v : Nat} {l : List α} {r : Nat} (hc : Chn A b v l r) : v < N → p v ≤ p r + sumLn A l := by
  induction hc with
  | nil _ => intro _; simp [sumLn]
  | @cons v s l r h1 h2 ih =>
    intro hv
    obtain ⟨e1, e2, e3⟩ := hb v hv s h1
    have h3 := ih e3
    have h4 := hp s e1
    rw [e2] at h4
    simp only [sumLn]; omega
theorem dist_of {M a : Nat} {R : List Road} (hok : NetOk (M : Int) R) (ha : a < M) : DistOf (netR R) M a (fun y => decide (gi (distW M R a) y < farW) = true) (gi (distW M R a)) := by
  have hd := dist_ok hok ha
  have hE := dist_end hok ha
  refine ⟨⟨?_, hd.zero⟩, fun k hk hr => ?_, fun p hp y hy hr => ?_⟩
  · rw [hd.zero]; exact decide_eq_true (by unfold farW; omega)
  · have hk' : k < R.length := hk
    have h1 := of_decide_eq_true hr
    have hf := hok.fr k hk'
    have ht := hok.to k hk'
    have hl := hok.ln k hk'
    have e1 : (netR R).fr k = R[k].fr.toNat := by show (rdK R k).fr.toNat = _; rw [rdK_at hk']
    have e2 : (netR R).to k = R[k].to.toNat := by show (rdK R k).to.toNat = _; rw [rdK_at hk']
    have e3 : (netR R).ln k = R[k].ln := by show (rdK R k).ln = _; rw [rdK_at hk']
    rw [e1] at h1 ⊢
    rw [e2, e3]
    have h2 := hd.road k hk' h1
    have h3 := hd.near R[k].fr.toNat (by omega)
    refine ⟨decide_eq_true ?_, h2⟩
    unfold farW at h1 h3 ⊢
    omega
  · have h1 := of_decide_eq_true hr
    obtain ⟨l, r, hc⟩ := hE.ends y hy
    obtain ⟨t1, t2, t3, t4, t5⟩ := hE.tele (in_fwd hok) hy hc
    have hpot : (netR R).arcs.Pot (fwdL R.length) p := fun s hs => by
      have h0 := fwdL_in s hs
      unfold fwdL at hs
      obtain ⟨k, hk, rfl⟩ := List.mem_map.1 hs
      have hk := List.mem_range.1 hk
      have := hp k hk
      simp only [NetG.arcs, eNo_pos]
      rw [if_neg (by omega), if_neg (by omega), if_neg (by omega)]
      omega
    have h2 := chn_pot hpot (N := M) (fun v hv s hs => by
      obtain ⟨e1, e2, _⟩ := hE.edge v hv s hs
      exact ⟨e1, e2, (in_fwd hok s e1).1⟩) hc hy
    have h3 := t5 h1
    have h4 : r = a := by
      rw [t4] at h3
      unfold firstW at h3
      split at h3
      · assumption
      · omega
    subst h4
    unfold firstW at t4
    rw [if_pos rfl] at t4
    omega
end Go.Proofs.Ytbejgbflipoboaa
