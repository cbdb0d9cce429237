/- A region that draws its order, whose operations only read and whose callees keep all that was there (they may make memory of their own): walked once, in the text's order. -/
import Derived.Test.YteledfiechbhgaaGreatDoorQSl
import Derived.BigQuiet
import Derived.Deep.QuietTactic
import Derived.Deep.RegionHeld3
namespace Go.Proofs.YteledfiechbhgaaGreatDoor
open Go Go.RowKit

/-- A world in which all of W is as it was. -/
structure KeptOf (W : World) where
  world : World
  keep : Keep W world
instance (W : World) : Inhabited (KeptOf W) := ⟨⟨W, Keep.refl W⟩⟩
theorem KeptOf.cell {W : World} (u : KeptOf W) {a : Addr} {v : Value} (h : W.cell? a = some v) : u.world.cell? a = some v := u.keep.cell h
theorem KeptOf.holds {g W : World} (u : KeptOf W) {L : List SProp} (h : Holds g W L) : Holds g u.world L := h.keep u.keep
theorem KeptOf.calls {P : Program} {W : World} {u : KeptOf W} {f : FuncId} {args : Array Value} {v : Value} (h : Calls P f args u.world fun e w' => e = .returned v ∧ Keep u.world w') :
    Calls P f args u.world fun e w'' => e = .returned v ∧ ∃ u' : KeptOf W, w'' = u'.world :=
  h.mono fun _ _ ⟨he, hk⟩ => ⟨he, ⟨_, u.keep.trans hk⟩, rfl⟩
theorem wp_region_kept {P : Program} {id : Nat} {Q : Exit → Act → World → Prop} {a : Act} {W : World} {l : List Oper} (hm : P.follows .mixedOrders = true) (hB : Region.lexB .any l.toArray = true)
    (h : wpQuiet P l.toArray (fun w' => ∃ u : KeptOf W, w' = u.world) (fun a' => ∀ w', (∃ u : KeptOf W, w' = u.world) → Q .normal a' w') l a) : (Code.region id l.toArray true).wp P Q a W :=
  wp_region_quiet (C := fun w' => ∃ u : KeptOf W, w' = u.world) hm hB ⟨⟨_, (Keep.refl W).drew⟩, rfl⟩ (by simpa using h)
end Go.Proofs.YteledfiechbhgaaGreatDoor
