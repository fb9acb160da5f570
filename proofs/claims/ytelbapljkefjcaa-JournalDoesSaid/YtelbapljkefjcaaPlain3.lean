/-
  A journal's state: its device, the number of its records, whether it has ended. No program here.
-/
import Derived.Test.YtelbapljkefjcaaPlain2
namespace Go.Proofs.Ytelbapljkefjcaa

structure JS where
  d : DS
  n : Nat
  ended : Bool

/-- The device behind an append, and the error. -/
def JS.put (J : JS) (r : List UInt8) : DS × Nat :=
  if J.ended || J.d.off then (J.d, 13) else if validB r.length = false then (J.d, 1)
  else if (J.d.write (frame r)).2 ≠ 0 then J.d.write (frame r) else (J.d.write (frame r)).1.sync

/-- How many records are counted behind an append; whether the journal has ended. -/
def JS.cnt (J : JS) (r : List UInt8) : Nat := if (J.put r).2 = 0 then J.n + 1 else J.n
def JS.fin (J : JS) (r : List UInt8) : Bool := if (J.put r).2 = 13 then true else J.ended

def JS.append (J : JS) (r : List UInt8) : JS × Nat :=
  ({ d := (J.put r).1, n := J.cnt r, ended := J.fin r }, (J.put r).2)

theorem JS.put_ok {J : JS} (h : J.d.Ok) (r : List UInt8) : (J.put r).1.Ok := by
  unfold JS.put
  split
  · exact h
  · split
    · exact h
    · split
      · exact h.write _
      · exact (h.write _).sync

/-- A device reopened: the device, the records, the error. -/
def DS.open (D : DS) : DS × List (List UInt8) × Nat :=
  if D.off then (D, [], 13)
  else if (scan D.data).2 < D.data.length then
    (if (D.trunc (scan D.data).2).2 ≠ 0 then ((D.trunc (scan D.data).2).1, [], (D.trunc (scan D.data).2).2) else ((D.trunc (scan D.data).2).1, (scan D.data).1, 0))
  else (D, (scan D.data).1, 0)
end Go.Proofs.Ytelbapljkefjcaa
