/- Regions that draw their order, whose operations read and whose callees leave all that lay as it lay (they may make memory): one walk of the text's order serves every order. Drawn from the library's theorem on classes of worlds. -/
import Derived.WalkKit
import Derived.WalkSpells
import Derived.WalkLawsBesides
import Derived.Deep.QuietTactic
import Derived.BigQuiet
import Derived.Lib.Hide
import Derived.Test.YtfhgnmijigdlmaaBase
namespace Go.Proofs.Ytfhgnmijigdlmaa
open Go.RowKit

/-- A world that has grown out of W. -/
structure GW (W : World) where
  world : World
  ext : Ext W world
instance GW.ne (W : World) : Nonempty (GW W) := ⟨⟨W, Below.refl _ _⟩⟩
theorem GW.cell {W : World} (x : GW W) {b o : Nat} (hb : b < W.heap.size) : x.world.cell? ⟨b, o, none⟩ = W.cell? ⟨b, o, none⟩ := x.ext.cell' hb

theorem ext_alloc (W : World) (o : Obj) : Ext W (W.alloc o) := (Below.refl _ W).alloc (Nat.le_refl _) _
theorem fz_new (W : World) (cs : Array Value) (T : TypeId) (i : Nat) : (W.alloc (.cells cs T)).frozen? ⟨W.heap.size, i, none⟩ = false := by
  have : (W.alloc (.cells cs T)).heap[W.heap.size]? = some (.cells cs T) := heap_alloc_new W _
  unfold World.frozen?
  simp only [this]
  simp
theorem fz_old {W W' : World} (h : Ext W W') {b : Nat} (hb : b < W.heap.size) (i : Nat) : W'.frozen? ⟨b, i, none⟩ = W.frozen? ⟨b, i, none⟩ := h.frozen (p := ⟨b, i, none⟩) hb
theorem ext_drew (W : World) : Ext W { W with drawn := W.drawn + 1 } := ⟨rfl, rfl, rfl, Nat.le_refl _, fun _ _ => rfl⟩

theorem gw_all {W : World} {K : World → Prop} : (∀ w', (∃ x : GW W, w' = x.world) → K w') ↔ ∀ w', Ext W w' → K w' :=
  ⟨fun h w' hE => h w' ⟨⟨w', hE⟩, rfl⟩, fun h w' ⟨x, hx⟩ => h w' (by rw [hx]; exact x.ext)⟩

theorem wp_region_ext {P : Program} {id : Nat} {Q : Exit → Act → World → Prop} {a : Act} {w : World} {l : List Oper} (hm : P.follows .mixedOrders = true) (hB : Region.lexB .any l.toArray = true)
    (h : wpQuiet P l.toArray (fun w' => ∃ x : GW w, w' = x.world) (fun a' => ∀ w', Ext w w' → Q .normal a' w') l a) : (Code.region id l.toArray true).wp P Q a w :=
  wp_region_quiet (C := fun w' => ∃ x : GW w, w' = x.world) hm hB ⟨⟨_, ext_drew w⟩, rfl⟩ (by simp only [gw_all]; exact h)

theorem quiet_ext {P : Program} {f : FuncId} {args : Array Value} {W : World} {x : GW W} {v : Value}
    (h : Calls P f args x.world fun e w' => e = .returned v ∧ Ext x.world w') : Calls P f args x.world fun e w'' => e = .returned v ∧ ∃ y : GW W, w'' = y.world :=
  h.mono fun _ w' ⟨he, hE⟩ => ⟨he, ⟨w', x.ext.trans' hE⟩, rfl⟩
theorem quiet_same {P : Program} {f : FuncId} {args : Array Value} {W : World} {x : GW W} {v : Value}
    (h : Calls P f args x.world fun e w' => e = .returned v ∧ x.world = w') : Calls P f args x.world fun e w'' => e = .returned v ∧ ∃ y : GW W, w'' = y.world :=
  h.mono fun _ _ ⟨he, hE⟩ => ⟨he, x, hE.symm⟩
end Go.Proofs.Ytfhgnmijigdlmaa
