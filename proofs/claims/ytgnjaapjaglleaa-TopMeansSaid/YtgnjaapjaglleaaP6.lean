/- The nearest load; weighted sums of distances. -/
import Derived.Test.YtgnjaapjaglleaaP5
namespace Go.Proofs.Ytgnjaapjaglleaa

def gl (ll : List (List Atom)) (i : Nat) : List Atom := ll[i]?.getD []
theorem gl_at {ll : List (List Atom)} {i : Nat} (h : i < ll.length) : gl ll i = ll[i] := by simp [gl, h]
def nearErr (ll : List (List Atom)) (m : List Atom) (k : Int) : Int :=
  if loadsErr ll ≠ 0 then loadsErr ll else if valAtoms m ≠ 0 then valAtoms m else if totalL m ≠ totalL (gl ll 0) then 5 else if kindB k then 0 else 1
def nearTo (ll : List (List Atom)) (m : List Atom) (k : Int) : Nat → Nat
  | 0 => 0
  | j + 1 => if apartL (gl ll j) m k < apartL (gl ll (nearTo ll m k j)) m k then j else nearTo ll m k j
def nearV (ll : List (List Atom)) (m : List Atom) (k : Int) : Int := if nearErr ll m k = 0 then nearTo ll m k ll.length else 0
theorem nearTo_lt (ll : List (List Atom)) (m : List Atom) (k : Int) : ∀ j, 0 < j → nearTo ll m k j < j
  | j + 1, _ => by
    unfold nearTo
    split
    · omega
    · cases j with
      | zero => simp [nearTo]
      | succ j => have := nearTo_lt ll m k (j + 1) (by omega); omega
theorem nearTo_one (ll : List (List Atom)) (m : List Atom) (k : Int) : nearTo ll m k 1 = 0 := by
  have := nearTo_lt ll m k 1 (by omega); omega
def sumErr (ll : List (List Atom)) (ws : List Int) (m : List Atom) (k : Int) : Int :=
  if loadsErr ll ≠ 0 then loadsErr ll else if valAtoms m ≠ 0 then valAtoms m else if weightsErr ll ws ≠ 0 then weightsErr ll ws else if totalL m ≠ totalL (gl ll 0) then 5 else if kindB k then 0 else 1
def sumAp (ll : List (List Atom)) (ws : List Int) (m : List Atom) (k : Int) (n : Nat) : Int := sumR (fun i => gi ws i * apartL (gl ll i) m k) n
def sumV (ll : List (List Atom)) (ws : List Int) (m : List Atom) (k : Int) : Int := if sumErr ll ws m k = 0 then sumAp ll ws m k ll.length else 0
theorem pair_load {ll : List (List Atom)} {m : List Atom} (h : OkLoads ll) (hm : valAtoms m = 0) (ht : totalL m = totalL (gl ll 0)) {j : Nat} (hj : j < ll.length) : pairV ll[j] m := by
  have h0 := h.pos
  refine ⟨h.fine hj, fine_atoms hm, ?_⟩
  rw [ht, gl_at (by omega), h.fit j hj]
theorem apartL_bd {l m : List Atom} (h : pairV l m) (k : Int) : 0 ≤ apartL l m k ∧ apartL l m k ≤ 576000000000000 := by
  obtain ⟨g1, g2, g3⟩ := h
  have hu := units_eq g1 g2 g3
  have hb := apartTo_bd (units_in g1) (units_in g2) k (unitsL l).length (Nat.le_refl _) (by omega)
  have h4 := units_40 g1
  unfold apartL
  omega
theorem sumAp_bd {ll : List (List Atom)} {ws : List Int} {m : List Atom} {k : Int} (h : OkLoads ll) (hp : ∀ j, (hj : j < ll.length) → pairV ll[j] m) (hw : ∀ j, j < ll.length → 1 ≤ gi ws j ∧ gi ws j ≤ 9) {n : Nat} (hn : n ≤ ll.length) : 0 ≤ sumAp ll ws m k n ∧ sumAp ll ws m k n ≤ 25920000000000000 := by
  have h1 := sumR_bd (f := fun i => gi ws i * apartL (gl ll i) m k) (A := 0) (B := 5184000000000000) (n := ll.length) (fun i hi => by
    have h2 := hw i hi
    have h3 := apartL_bd (hp i hi) k
    rw [gl_at hi]
    have h4 := mulbd (a := gi ws i) (b := apartL ll[i] m k) (A := 9) (B := 576000000000000) (by omega) (by omega)
    exact ⟨Int.mul_nonneg (by omega) h3.1, by omega⟩) n hn
  have h5 := h.five
  unfold sumAp
  omega
end Go.Proofs.Ytgnjaapjaglleaa
