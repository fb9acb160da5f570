/-
  An argument's block is none of the device's.
-/
import Derived.Test.YtelbapljkefjcaaLFrames
namespace Go.Proofs.Ytelbapljkefjcaa
open Go.RowKit

/-- An argument's block is none of the device's. -/
theorem apart {w w' : World} {k : Nat} {a : Option Addr} {n c : Nat} {vs : List Value} {T g : Nat} {dv : Value} {D : DS} (hv : Sl w k a n c vs) (hk : 0 < k) (hd : Dev w' w.heap.size T g dv D) :
    0 < n → ∀ y, a = some y → y.block ≠ g ∧ some y.block ≠ dv.ownBlock := fun hn y hy => by
  have h1 := hv.lt hn hk hy
  have h2 := hd.low
  exact ⟨by omega, fun e => by have := (hd.own.lt _ e.symm).1; omega⟩

end Go.Proofs.Ytelbapljkefjcaa
