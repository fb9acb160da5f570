/-
  What was synced survives a crash. No program here.
-/
import Derived.Test.YtelbapljkefjcaaPlain3
namespace Go.Proofs.Ytelbapljkefjcaa

theorem write_new (size : Int) (a : List UInt8) (h : a.length ≤ min size.toNat 1048576) : (DS.new size).write a = ({ DS.new size with data := a }, 0) := by
  have h1 : ¬ (min size.toNat 1048576 < a.length) := by omega
  simp [DS.write, DS.new, DS.operate, h1]

def synced (a b : List UInt8) : DS := { size := 1000, data := a ++ b, safe := a.length, off := false, armed := 0 }

theorem sync_step (a : List UInt8) : ({ DS.new 1000 with data := a } : DS).sync = ({ DS.new 1000 with data := a, safe := a.length }, 0) := by
  simp [DS.sync, DS.new, DS.operate]
theorem write_step (a b : List UInt8) (ha : a.length ≤ 300) (hb : b.length ≤ 300) : ({ DS.new 1000 with data := a, safe := a.length } : DS).write b = (synced a b, 0) := by
  have h1 : ¬ (1000 - a.length < b.length) := by omega
  simp [DS.write, DS.new, DS.operate, synced]
  omega
theorem crash_step (a b : List UInt8) (keep : Int) : (synced a b).crash keep = { size := 1000, data := a ++ b.take (min keep.toNat b.length), safe := a.length + min keep.toNat b.length, off := false, armed := 0 } := by
  simp only [DS.crash, DS.keepN, synced, List.length_append, Nat.add_sub_cancel_left]
  congr 1
  rw [List.take_append, List.take_of_length_le (by omega)]
  congr 2
  omega
theorem crash_again (D : DS) (hs : D.safe = D.data.length) (ho : D.off = false) (ha : D.armed = 0) : D.crash 0 = D := by
  obtain ⟨size, data, safe, off, armed⟩ := D
  simp only at hs ho ha
  subst hs; subst ho; subst ha
  simp [DS.crash, DS.keepN]
end Go.Proofs.Ytelbapljkefjcaa
