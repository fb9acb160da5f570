/-
  A device that has only seen whole appends. No program here.
-/
import Derived.Test.YtelbapljkefjcaaPlain3
import Derived.Test.YtelbapljkefjcaaPlain4
namespace Go.Proofs.Ytelbapljkefjcaa

def calm (sz : Nat) (R : List (List UInt8)) : DS := { size := sz, data := frames R, safe := (frames R).length, off := false, armed := 0 }

theorem new_calm {n : Nat} (h : n ≤ 1048576) : DS.new (n : Int) = calm n [] := by
  simp only [DS.new, calm, frames_nil]
  congr 1
  omega
theorem scan_frames' {R : List (List UInt8)} (h : ∀ r ∈ R, validB r.length = true) : scan (frames R) = (R, (frames R).length) := by
  have := scan_frames R [] h
  rw [List.append_nil, scan_nil] at this
  simpa using this
theorem calm_open (sz : Nat) {R : List (List UInt8)} (h : ∀ r ∈ R, validB r.length = true) : (calm sz R).open = (calm sz R, R, 0) := by
  have hs := scan_frames' h
  simp [DS.open, calm, hs]
theorem calm_append (sz n : Nat) (R : List (List UInt8)) (r : List UInt8) (hv : validB r.length = true) (hs : (frames R).length + 8 + r.length ≤ sz) :
    JS.append ⟨calm sz R, n, false⟩ r = (⟨calm sz (R ++ [r]), n + 1, false⟩, 0) := by
  have hl := frame_length r hv
  have h1 : ¬ (sz - (frames R).length < (frame r).length) := by omega
  have hf := frames_snoc R r
  have hw : (calm sz R).write (frame r) = ({ calm sz R with data := frames R ++ frame r }, 0) := by simp [DS.write, calm, DS.operate, h1]
  have hsy : ({ calm sz R with data := frames R ++ frame r } : DS).sync = (calm sz (R ++ [r]), 0) := by simp [DS.sync, calm, DS.operate, hf]
  have hp : JS.put ⟨calm sz R, n, false⟩ r = (calm sz (R ++ [r]), 0) := by
    have h0 : (calm sz R).off = false := rfl
    have he : JS.put ⟨calm sz R, n, false⟩ r = ({ calm sz R with data := frames R ++ frame r } : DS).sync := by simp [JS.put, hv, hw, h0]
    rw [he, hsy]
  simp [JS.append, JS.cnt, JS.fin, hp]

/-- The records that lie on the device ahead of round r. -/
def laidR (L M : List (List UInt8)) : Nat → List (List UInt8)
  | 0 => []
  | 1 => L
  | _ => L ++ M
end Go.Proofs.Ytelbapljkefjcaa
