/-
  A device's state and what its operations do to it. No program here.
-/
import Derived.Test.YtelbapljkefjcaaPlain
namespace Go.Proofs.Ytelbapljkefjcaa

structure DS where
  size : Nat
  data : List UInt8
  safe : Nat
  off : Bool
  armed : Nat

structure DS.Ok (D : DS) : Prop where
  cap : D.size ≤ 1048576
  fits : D.data.length ≤ D.size
  safe : D.safe ≤ D.data.length
  armed : D.armed ≤ 9223372036854775807

def DS.operate (D : DS) : DS × Bool :=
  if D.armed = 0 then (D, true) else if D.armed = 1 then ({ D with armed := 0, off := true }, false) else ({ D with armed := D.armed - 1 }, true)

def DS.write (D : DS) (b : List UInt8) : DS × Nat :=
  if D.off then (D, 13) else if D.size - D.data.length < b.length then (D, 12)
  else if D.operate.2 then ({ D.operate.1 with data := D.data ++ b }, 0) else (D.operate.1, 13)

def DS.sync (D : DS) : DS × Nat :=
  if D.off then (D, 13) else if D.operate.2 then ({ D.operate.1 with safe := D.data.length }, 0) else (D.operate.1, 13)

def DS.trunc (D : DS) (n : Int) : DS × Nat :=
  if D.off then (D, 13) else if n < 0 ∨ (D.data.length : Int) < n then (D, 1)
  else if D.operate.2 then ({ D.operate.1 with data := D.data.take n.toNat, safe := n.toNat }, 0) else (D.operate.1, 13)

def DS.keepN (D : DS) (keep : Int) : Nat := D.safe + min keep.toNat (D.data.length - D.safe)
def DS.crash (D : DS) (keep : Int) : DS := { D with data := D.data.take (D.keepN keep), safe := D.keepN keep, off := false, armed := 0 }
def DS.fail (D : DS) (n : Int) : DS := { D with armed := n.toNat }
def DS.new (size : Int) : DS := { size := min size.toNat 1048576, data := [], safe := 0, off := false, armed := 0 }

theorem DS.operate_data (D : DS) : D.operate.1.data = D.data ∧ D.operate.1.size = D.size ∧ D.operate.1.safe = D.safe := by
  unfold DS.operate; split
  · exact ⟨rfl, rfl, rfl⟩
  · split <;> exact ⟨rfl, rfl, rfl⟩
theorem DS.Ok.operate {D : DS} (h : D.Ok) : D.operate.1.Ok := by
  obtain ⟨h1, h2, h3⟩ := D.operate_data
  refine ⟨by rw [h2]; exact h.cap, by rw [h1, h2]; exact h.fits, by rw [h1, h3]; exact h.safe, ?_⟩
  have := h.armed
  unfold DS.operate; split
  · exact this
  · split <;> simp; omega
theorem DS.Ok.write {D : DS} (h : D.Ok) (b : List UInt8) : (D.write b).1.Ok := by
  obtain ⟨h1, h2, h3⟩ := D.operate_data
  unfold DS.write
  split
  · exact h
  · split
    · exact h
    · rename_i hlt
      split
      · have := h.fits
        refine ⟨h.operate.cap, ?_, ?_, h.operate.armed⟩
        · simp only [List.length_append, h2]; omega
        · simp only [List.length_append, h3]; have := h.safe; omega
      · exact h.operate
theorem DS.Ok.sync {D : DS} (h : D.Ok) : D.sync.1.Ok := by
  obtain ⟨h1, h2, h3⟩ := D.operate_data
  unfold DS.sync
  split
  · exact h
  · split
    · exact ⟨h.operate.cap, h.operate.fits, by simp only [h1]; omega, h.operate.armed⟩
    · exact h.operate
theorem DS.Ok.trunc {D : DS} (h : D.Ok) (n : Int) : (D.trunc n).1.Ok := by
  obtain ⟨h1, h2, h3⟩ := D.operate_data
  unfold DS.trunc
  split
  · exact h
  · split
    · exact h
    · rename_i hn
      split
      · have := h.fits
        refine ⟨h.operate.cap, ?_, ?_, h.operate.armed⟩
        · simp only [List.length_take, h2]; omega
        · simp only [List.length_take]; omega
      · exact h.operate
theorem DS.keepN_le {D : DS} (h : D.Ok) (keep : Int) : D.keepN keep ≤ D.data.length := by
  have := h.safe
  unfold DS.keepN; omega
theorem DS.Ok.crash {D : DS} (h : D.Ok) (keep : Int) : (D.crash keep).Ok := by
  have h1 := DS.keepN_le h keep
  have h2 := h.fits
  refine ⟨h.cap, ?_, ?_, by simp [DS.crash]⟩
  · simp only [DS.crash, List.length_take]; omega
  · simp only [DS.crash, List.length_take]; omega
theorem DS.Ok.fail {D : DS} (h : D.Ok) {n : Int} (hn : n ≤ 9223372036854775807) : (D.fail n).Ok :=
  ⟨h.cap, h.fits, h.safe, by simp only [DS.fail]; omega⟩
theorem DS.Ok.new (n : Int) : (DS.new n).Ok := ⟨by simp only [DS.new]; omega, by simp [DS.new], by simp [DS.new], by simp [DS.new]⟩
end Go.Proofs.Ytelbapljkefjcaa
