/-
  The device in memory, and its operations: the program's and the reference's.
-/
import Derived.Test.YtelbapljkefjcaaSame
import Derived.Test.YtelbapljkefjcaaPlain2
namespace Go.Proofs.Ytelbapljkefjcaa
open Go.RowKit

/-- A device at the head of block g, of struct type T; its bytes are owned by the slice dv. -/
structure Dev (w : World) (base : Nat) (T : TypeId) (g : Nat) (dv : Value) (D : DS) : Prop where
  low : base ≤ g
  heap : w.heap[g]? = some (.cells #[.int .i64 D.size, dv, .int .i64 D.safe, .bool D.off, .int .i64 D.armed] T (0, 0))
  own : w.ownsRow base 5 1 dv D.data.length (D.data.map B)
  ne : dv.ownBlock ≠ some g
  ok : D.Ok

/-- The world has turned in block g, in the block of dv, and in new blocks alone; the block of dv' is the one of dv, or new. -/
structure Moved (w w' : World) (g : Nat) (dv dv' : Value) : Prop where
  os : w'.os = w.os
  tape : w'.tape = w.tape
  output : w'.output = w.output
  size : w.heap.size ≤ w'.heap.size
  block : ∀ k, k < w.heap.size → k ≠ g → some k ≠ dv.ownBlock → w'.heap[k]? = w.heap[k]?
  own : ∀ k, dv'.ownBlock = some k → dv.ownBlock = some k ∨ w.heap.size ≤ k

theorem Moved.refl (w : World) (g : Nat) (dv : Value) : Moved w w g dv dv := ⟨rfl, rfl, rfl, Nat.le_refl _, fun _ _ _ _ => rfl, fun _ h => .inl h⟩
theorem Moved.trans {a b c : World} {g : Nat} {u v x : Value} (h : Moved a b g u v) (k : Moved b c g v x) : Moved a c g u x :=
  ⟨k.os.trans h.os, k.tape.trans h.tape, k.output.trans h.output, Nat.le_trans h.size k.size,
   fun i hi h1 h2 => (k.block i (Nat.lt_of_lt_of_le hi h.size) h1 (fun e => by
     rcases h.own i e.symm with h' | h'
     · exact h2 h'.symm
     · omega)).trans (h.block i hi h1 h2),
   fun i hi => by
     rcases k.own i hi with h' | h'
     · exact h.own i h'
     · exact .inr (Nat.le_trans h.size h')⟩
theorem Moved.drewN {a b : World} {g : Nat} {u v : Value} (h : Moved a b g u v) (n : Nat) : Moved a (b.drewN n) g u v := ⟨h.os, h.tape, h.output, h.size, h.block, h.own⟩
theorem Moved.setCell {a b : World} {g : Nat} {u v : Value} (h : Moved a b g u v) (i : Nat) (x : Value) : Moved a (b.setCell ⟨g, i, none⟩ x) g u v :=
  ⟨h.os, h.tape, h.output, by simpa using h.size, fun k hk h1 h2 => (heap_setCell_other b ⟨g, i, none⟩ k x h1).trans (h.block k hk h1 h2), h.own⟩
theorem Moved.below {w w' : World} {base g : Nat} {dv dv' : Value} (h : Moved w w' g dv dv') (hg : base ≤ g) (hd : ∀ k, dv.ownBlock = some k → base ≤ k) (hb : base ≤ w.heap.size) : Below base w w' :=
  ⟨h.os, h.tape, h.output, h.size, fun k hk => h.block k (by omega) (by omega) (fun e => by have := hd k e.symm; omega)⟩

section
variable {w w' : World} {base : Nat} {T : TypeId} {g : Nat} {dv : Value} {D : DS}
theorem Dev.lt (h : Dev w base T g dv D) : g < w.heap.size := (Array.getElem?_eq_some_iff.1 h.heap).1
theorem Dev.cell (h : Dev w base T g dv D) : w.cell? ⟨g, 0, none⟩ = some (.int .i64 D.size) ∧ w.cell? ⟨g, 1, none⟩ = some dv ∧ w.cell? ⟨g, 2, none⟩ = some (.int .i64 D.safe) ∧
    w.cell? ⟨g, 3, none⟩ = some (.bool D.off) ∧ w.cell? ⟨g, 4, none⟩ = some (.int .i64 D.armed) := by
  refine ⟨?_, ?_, ?_, ?_, ?_⟩ <;> (rw [cell_of_row w g _ _ T (0, 0) h.heap]; rfl)
theorem Dev.frozen (h : Dev w base T g dv D) (i : Nat) : w.frozen? ⟨g, i, none⟩ = false := frozen_of_row w g i _ T h.heap
theorem Dev.keep (h : Dev w base T g dv D) (hg : w'.heap[g]? = w.heap[g]?) (hd : ∀ k, dv.ownBlock = some k → w'.heap[k]? = w.heap[k]?) : Dev w' base T g dv D :=
  ⟨h.low, hg.trans h.heap, ownsRow_keep h.own fun b hb _ => hd b hb, h.ne, h.ok⟩
theorem Dev.drewN (h : Dev w base T g dv D) (n : Nat) : Dev (w.drewN n) base T g dv D := h.keep rfl fun _ _ => rfl
theorem Dev.below (h : Dev w base T g dv D) (hb : Below w.heap.size w w') : Dev w' base T g dv D := h.keep (hb.block _ h.lt) fun k hk => hb.block _ (h.own.lt k hk).2
theorem Dev.slice (h : Dev w base T g dv D) : ∃ a c, dv = .slice a D.data.length c ∧ Bs w a D.data.length c D.data := by
  obtain ⟨a, c, e, hs, _⟩ := ownsRow_sl h.own
  exact ⟨a, c, e, hs⟩
/-- A store into the device's own block: what the block holds then, and what is owned. -/
theorem Dev.store (h : Dev w base T g dv D) (i : Nat) (x : Value) : (w.setCell ⟨g, i, none⟩ x).heap[g]? = some (.cells ((#[.int .i64 D.size, dv, .int .i64 D.safe, .bool D.off, .int .i64 D.armed] : Array Value).setIfInBounds i x) T (0, 0)) ∧
    (w.setCell ⟨g, i, none⟩ x).ownsRow base 5 1 dv D.data.length (D.data.map B) :=
  ⟨heap_setCell_same w g i _ T x h.heap, ownsRow_keep h.own fun b hb _ => heap_setCell_other w ⟨g, i, none⟩ b x (fun e => h.ne (by rw [hb, e]))⟩
theorem Dev.to {D' : DS} (h : Dev w base T g dv D) (hh : w'.heap[g]? = some (.cells #[.int .i64 D'.size, dv, .int .i64 D'.safe, .bool D'.off, .int .i64 D'.armed] T (0, 0)))
    (hd : ∀ k, k ≠ g → w'.heap[k]? = w.heap[k]?) (hdata : D'.data = D.data) (ok : D'.Ok) : Dev w' base T g dv D' :=
  ⟨h.low, hh, by rw [hdata]; exact ownsRow_keep h.own fun b hb _ => hd b (fun e => h.ne (by rw [hb, e])), h.ne, ok⟩
theorem Dev.to1 {D' : DS} (h : Dev w base T g dv D) (i : Nat) (x : Value) (hh : ((#[.int .i64 D.size, dv, .int .i64 D.safe, .bool D.off, .int .i64 D.armed] : Array Value).setIfInBounds i x) = #[.int .i64 D'.size, dv, .int .i64 D'.safe, .bool D'.off, .int .i64 D'.armed])
    (hdata : D'.data = D.data) (ok : D'.Ok) : Dev (w.setCell ⟨g, i, none⟩ x) base T g dv D' :=
  h.to (by rw [← hh]; exact heap_setCell_same w g i _ T x h.heap) (fun k hk => heap_setCell_other w ⟨g, i, none⟩ k x hk) hdata ok
theorem Dev.to2 {D' : DS} (h : Dev w base T g dv D) (i j : Nat) (x y : Value) (hh : (((#[.int .i64 D.size, dv, .int .i64 D.safe, .bool D.off, .int .i64 D.armed] : Array Value).setIfInBounds i x).setIfInBounds j y) = #[.int .i64 D'.size, dv, .int .i64 D'.safe, .bool D'.off, .int .i64 D'.armed])
    (hdata : D'.data = D.data) (ok : D'.Ok) : Dev ((w.setCell ⟨g, i, none⟩ x).setCell ⟨g, j, none⟩ y) base T g dv D' :=
  h.to (by rw [← hh]; exact heap_setCell_same _ g j _ T y (heap_setCell_same w g i _ T x h.heap)) (fun k hk => (heap_setCell_other _ ⟨g, j, none⟩ k y hk).trans (heap_setCell_other w ⟨g, i, none⟩ k x hk)) hdata ok
end

def errno (ok : Bool) : Int := if ok then 0 else 13
theorem errno_true : errno true = 0 := rfl
theorem errno_false : errno false = 13 := rfl

set_option maxHeartbeats 400000 in
theorem operate_any (g base : Nat) (dv : Value) (D : DS) (w : World) (h : Dev w base 63 g dv D) :
    Calls Try.prog 37 #[.pointer (some ⟨g, 0, none⟩)] w fun e w' => e = .returned (.int .i64 (errno D.operate.2)) ∧ Dev w' base 63 g dv D.operate.1 ∧ Moved w w' g dv dv := by
  obtain ⟨c0, c1, c2, c3, c4⟩ := h.cell
  have f4 := h.frozen 4
  have f3 := h.frozen 3
  have ha := h.ok.armed
  have H := Lib.hid h; clear h
  have HO := Lib.hid H.out.ok.operate
  by_cases h0 : D.armed = 0
  · have ho : D.operate = (D, true) := by simp [DS.operate, h0]
    rw [ho]
    clear ho
    go_enter Try.func37, Try.ntmps37
    go_wp2
    go_ret
    exact ⟨rfl, H.out, Moved.refl _ _ _⟩
  · by_cases h1 : D.armed = 1
    · have ho : D.operate = ({ D with armed := 0, off := true }, false) := by simp [DS.operate, h1]
      rw [ho] at HO ⊢
      clear ho
      go_enter Try.func37, Try.ntmps37
      go_wp2
      go_ret
      exact ⟨rfl, H.out.to2 4 3 _ _ rfl rfl HO.out, ((Moved.refl _ _ _).setCell _ _).setCell _ _⟩
    · have ho : D.operate = ({ D with armed := D.armed - 1 }, true) := by simp [DS.operate, h0, h1]
      rw [ho] at HO ⊢
      clear ho
      have h2 : (0 : Int) < (D.armed : Int) := by omega
      have h3 : (((D.armed : Int) - 1) == 0) = false := by simp; omega
      go_enter Try.func37, Try.ntmps37
      go_wp2
      go_ret
      have e : (.int .i64 ((D.armed : Int) - 1) : Value) = .int .i64 ((D.armed - 1 : Nat) : Int) := by rw [Int.ofNat_sub (by omega)]; rfl
      exact ⟨rfl, H.out.to1 4 _ (by rw [e]; rfl) rfl HO.out, (Moved.refl _ _ _).setCell _ _⟩

set_option maxHeartbeats 400000 in
theorem Roperate_any (g base : Nat) (dv : Value) (D : DS) (w : World) (h : Dev w base 56 g dv D) :
    Calls Try.prog 45 #[.pointer (some ⟨g, 0, none⟩)] w fun e w' => e = .returned (.bool D.operate.2) ∧ Dev w' base 56 g dv D.operate.1 ∧ Moved w w' g dv dv := by
  obtain ⟨c0, c1, c2, c3, c4⟩ := h.cell
  have f4 := h.frozen 4
  have f3 := h.frozen 3
  have ha := h.ok.armed
  have H := Lib.hid h; clear h
  have HO := Lib.hid H.out.ok.operate
  by_cases h0 : D.armed = 0
  · have ho : D.operate = (D, true) := by simp [DS.operate, h0]
    rw [ho]
    clear ho
    go_enter Try.func45, Try.ntmps45
    go_wp2
    go_ret
    exact ⟨rfl, H.out, Moved.refl _ _ _⟩
  · by_cases h1 : D.armed = 1
    · have ho : D.operate = ({ D with armed := 0, off := true }, false) := by simp [DS.operate, h1]
      rw [ho] at HO ⊢
      clear ho
      go_enter Try.func45, Try.ntmps45
      go_wp2
      go_ret
      exact ⟨rfl, H.out.to2 4 3 _ _ rfl rfl HO.out, ((Moved.refl _ _ _).setCell _ _).setCell _ _⟩
    · have ho : D.operate = ({ D with armed := D.armed - 1 }, true) := by simp [DS.operate, h0, h1]
      rw [ho] at HO ⊢
      clear ho
      have h2 : (0 : Int) < (D.armed : Int) := by omega
      have h3 : (((D.armed : Int) - 1) == 0) = false := by simp; omega
      go_enter Try.func45, Try.ntmps45
      go_wp2
      go_ret
      have e : (.int .i64 ((D.armed : Int) - 1) : Value) = .int .i64 ((D.armed - 1 : Nat) : Int) := by rw [Int.ofNat_sub (by omega)]; rfl
      exact ⟨rfl, H.out.to1 4 _ (by rw [e]; rfl) rfl HO.out, (Moved.refl _ _ _).setCell _ _⟩

end Go.Proofs.Ytelbapljkefjcaa
