/- The length of a slice that came in. -/
import Derived.Deep.Slices
import Derived.ProofKit
namespace Go.Proofs.Ytaidoaggmllcfaa
open Go.ChangeShapes Go.WideShapes Go.ChangeAt Go.RowKit Go.Deep
theorem slice_len {H : Type} {enc : TypeId × Value → H} {P : Program} {w : World} {base : Nat} {spare : Nat → Bool} {held : Bool} {t e : TypeId} {fuel : Nat} {a : Option Addr} {len cap : Nat} {x : DataW H × List MemPlace} (ht : P.underlying t = some (.slice e))
    (h : DataW.trod enc P w base spare held fuel t [.slice a len cap] = some x) : len ≤ 9223372036854775807 := by
  rcases open_slice ht h with ⟨hcs, _⟩ | ⟨ad, l', c', m, n, D, Pl, hcs, _, hl, hm, _⟩
  · simp at hcs; omega
  · simp at hcs
    unfold maxLen at hm
    omega
end Go.Proofs.Ytaidoaggmllcfaa
