/-
  The journal in memory: append, Append, Len, Open of the program; Append, Open of the reference.
-/
import Derived.Test.YtelbapljkefjcaaRDev
import Derived.Test.YtelbapljkefjcaaPlain3
namespace Go.Proofs.Ytelbapljkefjcaa
open Go.RowKit

/-- A journal at the head of block j, of struct type T, on the device at block g. -/
structure Jn (w : World) (base : Nat) (T : TypeId) (j g : Nat) (n : Nat) (ended : Bool) : Prop where
  low : base ≤ j
  heap : w.heap[j]? = some (.cells #[.pointer (some ⟨g, 0, none⟩), .int .i64 n, .bool ended] T (0, 0))

section
variable {w w' : World} {base : Nat} {T : TypeId} {j g n : Nat} {ended : Bool}
theorem Jn.lt (h : Jn w base T j g n ended) : j < w.heap.size := (Array.getElem?_eq_some_iff.1 h.heap).1
theorem Jn.cell (h : Jn w base T j g n ended) : w.cell? ⟨j, 0, none⟩ = some (.pointer (some ⟨g, 0, none⟩)) ∧ w.cell? ⟨j, 1, none⟩ = some (.int .i64 n) ∧ w.cell? ⟨j, 2, none⟩ = some (.bool ended) := by
  refine ⟨?_, ?_, ?_⟩ <;> (rw [cell_of_row w j _ _ T (0, 0) h.heap]; rfl)
theorem Jn.frozen (h : Jn w base T j g n ended) (i : Nat) : w.frozen? ⟨j, i, none⟩ = false := frozen_of_row w j i _ T h.heap
theorem Jn.keep (h : Jn w base T j g n ended) (hj : w'.heap[j]? = w.heap[j]?) : Jn w' base T j g n ended := ⟨h.low, hj.trans h.heap⟩
theorem Jn.drewN (h : Jn w base T j g n ended) (k : Nat) : Jn (w.drewN k) base T j g n ended := h.keep rfl
theorem Jn.below (h : Jn w base T j g n ended) (hb : Below w.heap.size w w') : Jn w' base T j g n ended := h.keep (hb.block _ h.lt)
theorem Jn.moved {dv dv' : Value} (h : Jn w base T j g n ended) (hm : Moved w w' g dv dv') (h1 : j ≠ g) (h2 : dv.ownBlock ≠ some j) : Jn w' base T j g n ended := h.keep (hm.block _ h.lt h1 (fun e => h2 e.symm))
end

/-- The world has turned in blocks j and g, in the block of dv, and in new blocks alone. -/
structure JMoved (w w' : World) (j g : Nat) (dv dv' : Value) : Prop where
  os : w'.os = w.os
  tape : w'.tape = w.tape
  output : w'.output = w.output
  size : w.heap.size ≤ w'.heap.size
  block : ∀ k, k < w.heap.size → k ≠ j → k ≠ g → some k ≠ dv.ownBlock → w'.heap[k]? = w.heap[k]?
  own : ∀ k, dv'.ownBlock = some k → dv.ownBlock = some k ∨ w.heap.size ≤ k

theorem Moved.j {w w' : World} {g : Nat} {dv dv' : Value} (h : Moved w w' g dv dv') (j : Nat) : JMoved w w' j g dv dv' := ⟨h.os, h.tape, h.output, h.size, fun k hk _ h1 h2 => h.block k hk h1 h2, h.own⟩
theorem JMoved.trans {a b c : World} {j g : Nat} {u v x : Value} (h : JMoved a b j g u v) (k : JMoved b c j g v x) : JMoved a c j g u x :=
  ⟨k.os.trans h.os, k.tape.trans h.tape, k.output.trans h.output, Nat.le_trans h.size k.size,
   fun i hi h0 h1 h2 => (k.block i (Nat.lt_of_lt_of_le hi h.size) h0 h1 (fun e => by
     rcases h.own i e.symm with h' | h'
     · exact h2 h'.symm
     · omega)).trans (h.block i hi h0 h1 h2),
   fun i hi => by
     rcases k.own i hi with h' | h'
     · exact h.own i h'
     · exact .inr (Nat.le_trans h.size h')⟩
theorem JMoved.setCell {a b : World} {j g : Nat} {u v : Value} (h : JMoved a b j g u v) (i : Nat) (x : Value) : JMoved a (b.setCell ⟨j, i, none⟩ x) j g u v :=
  ⟨h.os, h.tape, h.output, by simpa using h.size, fun k hk h0 h1 h2 => (heap_setCell_other b ⟨j, i, none⟩ k x h0).trans (h.block k hk h0 h1 h2), h.own⟩
theorem JMoved.below {w w' : World} {base j g : Nat} {dv dv' : Value} (h : JMoved w w' j g dv dv') (hj : base ≤ j) (hg : base ≤ g) (hd : ∀ k, dv.ownBlock = some k → base ≤ k) (hb : base ≤ w.heap.size) : Below base w w' :=
  ⟨h.os, h.tape, h.output, h.size, fun k hk => h.block k (by omega) (by omega) (by omega) (fun e => by have := hd k e.symm; omega)⟩
theorem Moved.ofBelowSame {w w' : World} {g : Nat} {dv : Value} (h : Below w.heap.size w w') : Moved w w' g dv dv := ⟨h.os, h.tape, h.output, h.size, fun k hk _ _ => h.block k hk, fun _ hk => .inl hk⟩

/-- What an append leaves. -/
def JPost (w : World) (base T TJ j g : Nat) (dv : Value) (D : DS) (n : Nat) (ended : Bool) (e0 : Nat) (e : Ending) (w' : World) : Prop :=
  e = .returned (.int .i64 e0) ∧ ∃ dv', Dev w' base T g dv' D ∧ Jn w' base TJ j g n ended ∧ JMoved w w' j g dv dv' ∧ dv'.ownBlock ≠ some j

theorem Dev.setOther {w : World} {base T g j : Nat} {dv : Value} {D : DS} (h : Dev w base T g dv D) (hj : j ≠ g) (hd : dv.ownBlock ≠ some j) (i : Nat) (x : Value) : Dev (w.setCell ⟨j, i, none⟩ x) base T g dv D :=
  h.keep (heap_setCell_other w ⟨j, i, none⟩ g x (fun e => hj e.symm)) fun k hk => heap_setCell_other w ⟨j, i, none⟩ k x (fun e => hd (by rw [hk, e]))

set_option maxHeartbeats 1600000 in
theorem append_any (j g base : Nat) (dv : Value) (J : JS) (w : World) (h : Dev w base 63 g dv J.d) (hj : Jn w base 66 j g J.n J.ended) (hjg : j ≠ g) (hjd : dv.ownBlock ≠ some j) (hn : J.n < 4611686018427387904)
    (a : Option Addr) (n c : Nat) (r : List UInt8) (hr : Bs w a n c r) :
    Calls Try.prog 36 #[.pointer (some ⟨j, 0, none⟩), .slice a n c] w (JPost w base 63 66 j g dv (J.put r).1 (J.cnt r) J.ended (J.put r).2) := by
  obtain ⟨c0, c1, c2, c3, c4⟩ := h.cell
  obtain ⟨j0, j1, j2⟩ := hj.cell
  have hl := hr.length
  have hlt := h.lt
  have hltj := hj.lt
  have H := Lib.hid h; clear h
  have HJ := Lib.hid hj; clear hj
  have HL := Lib.hid hl; clear hl
  have HR := Lib.hid hr; clear hr
  have HJD := Lib.hid hjd; clear hjd
  have hrc := HR.out.le_cap
  have hrm := HR.out.cap_le
  unfold maxLen at hrm
  cases hoff : (J.ended || J.d.off) with
  | true =>
    have hp : J.put r = (J.d, 13) := by simp [JS.put, hoff]
    have hcn : J.cnt r = J.n := by simp [JS.cnt, hp]
    rw [hp, hcn]; clear hp hcn
    cases he : J.ended with
    | true =>
      rw [he] at j2
      clear hoff
      go_enter Try.func36, Try.ntmps36
      go_wp2_with fail
      go_ret
      refine ⟨rfl, _, H.out, ?_, (Moved.refl _ _ _).j _, HJD.out⟩
      rw [← he]; exact HJ.out
    | false =>
      have ho : J.d.off = true := by simpa [he] using hoff
      rw [he] at j2
      rw [ho] at c3
      clear hoff ho
      go_enter Try.func36, Try.ntmps36
      go_wp2_with fail
      go_ret
      refine ⟨rfl, _, H.out, ?_, (Moved.refl _ _ _).j _, HJD.out⟩
      rw [← he]; exact HJ.out
  | false =>
    obtain ⟨he, ho⟩ : J.ended = false ∧ J.d.off = false := by simpa using hoff
    rw [he] at j2
    rw [ho] at c3
    have HOFF := Lib.hid hoff; clear hoff
    have HE := Lib.hid he; clear he
    have HO := Lib.hid ho; clear ho
    cases hval : validB n with
    | false =>
      have hp : J.put r = (J.d, 1) := by simp [JS.put, HOFF.out, HL.out, hval]
      have hcn : J.cnt r = J.n := by simp [JS.cnt, hp]
      rw [hp, hcn]; clear hp hcn
      go_enter Try.func36, Try.ntmps36
      go_wp2_with (go_at_call 31; refine (valid_any _ _ _ _ (by omega)).mono ?_; rintro e w' ⟨rfl, rfl⟩)
      go_ret
      exact ⟨rfl, _, H.out, HJ.out, (Moved.refl _ _ _).j _, HJD.out⟩
    | true =>
      have hp : J.put r = if (J.d.write (frame r)).2 ≠ 0 then J.d.write (frame r) else (J.d.write (frame r)).1.sync := by simp [JS.put, HOFF.out, HL.out, hval]
      have HP := Lib.hid hp; clear hp
      by_cases hw0 : (J.d.write (frame r)).2 = 0
      · have hp : J.put r = (J.d.write (frame r)).1.sync := by rw [HP.out]; simp [hw0]
        have t0 : ((((J.d.write (frame r)).2 : Nat) : Int) != 0) = false := by simp [hw0]
        have HW0 := Lib.hid hw0; clear hw0
        have HP1 := Lib.hid hp; clear hp
        go_enter Try.func36, Try.ntmps36
        go_wp2_with (go_at_call 31; refine (valid_any _ _ _ _ (by omega)).mono ?_; rintro e w' ⟨rfl, rfl⟩)
        go_region_held3 (fun (w' : World) => w'.cell? ⟨j, 0, none⟩ = some (.pointer (some ⟨g, 0, none⟩))) (assumption)
          (first
            | (go_at_call 11; refine (Frame_any _ _ _ r _ (by exact HR.out)).mono ?_; rintro e w1 ⟨a1, c1', rfl, hown1, hb1⟩
               have jj1 : w1.cell? ⟨j, 0, none⟩ = some (.pointer (some ⟨g, 0, none⟩)) := (World.cell?_of_block (w := w) (hb1.block j hltj)).trans j0
               have HB1 : Hid (Below w.heap.size w w1) := ⟨hb1.os, hb1.tape, hb1.output, hb1.size, hb1.block⟩
               have HO1 : Hid (w1.ownsRow w.heap.size 5 1 (.slice a1 (frame r).length c1') (frame r).length ((frame r).map B)) := hown1
               clear hb1 hown1)
            | (go_at_call 18; refine (Write_any g base dv J.d _ (H.out.below HB1.out) a1 (frame r).length c1' (frame r) (by obtain ⟨_, _, ee, hs, _⟩ := ownsRow_sl HO1.out; obtain ⟨rfl, _, rfl⟩ := Value.slice.inj ee; exact hs) (fun _ y hy => ⟨by have := (HO1.out.lt y.block (by rw [hy]; rfl)).1; omega, fun e => by have := (HO1.out.lt y.block (by rw [hy]; rfl)).1; have := (H.out.own.lt _ e.symm).2; omega⟩)).mono ?_
               rintro e w2 ⟨rfl, dv2, h2, hm2⟩
               have jn2 := (HJ.out.below HB1.out).moved hm2 hjg HJD.out
               have jj2 := jn2.cell.1
               have HM2 := Lib.hid hm2; clear hm2
               have H2 := Lib.hid h2; clear h2
               have HJ2 := Lib.hid jn2; clear jn2))
        go_wp2_with fail
        refine (Sync_any g base dv2 _ _ H2.out).mono ?_
        rintro e w3 ⟨rfl, dv3, h3, hm3⟩
        have jd2 : dv2.ownBlock ≠ some j := fun e => by
          have h1 := HB1.out.size
          rcases HM2.out.own j e with h | h
          · exact HJD.out h
          · omega
        have JD3 : Hid (dv3.ownBlock ≠ some j) := fun e => by
          have h1 := HB1.out.size
          have h2 := HM2.out.size
          rcases hm3.own j e with h | h
          · exact jd2 h
          · omega
        have jn3 := HJ2.out.moved hm3 hjg jd2
        obtain ⟨k0, k1, k2⟩ := jn3.cell
        have f1 := jn3.frozen 1
        have HJM : Hid (JMoved w w3 j g dv dv3) := (((Moved.ofBelowSame HB1.out).trans HM2.out).trans hm3).j j
        have HJ3 := Lib.hid jn3; clear jn3
        have H3 := Lib.hid h3; clear h3
        clear hm3 jd2
        by_cases hs0 : (J.d.write (frame r)).1.sync.2 = 0
        · have t1 : ((((J.d.write (frame r)).1.sync.2 : Nat) : Int) != 0) = false := by simp [hs0]
          have HS0 := Lib.hid hs0; clear hs0
          go_wp2_with fail
          go_ret
          have hcn : J.cnt r = J.n + 1 := by simp [JS.cnt, HP1.out, HS0.out]
          rw [hcn, HP1.out]
          refine ⟨by rw [HS0.out]; rfl, dv3, H3.out.setOther hjg JD3.out 1 _, ⟨HJ3.out.low, ?_⟩, HJM.out.setCell _ _, JD3.out⟩
          rw [heap_setCell_same _ j 1 _ 66 _ HJ3.out.heap]
          rfl
        · have t1 : ((((J.d.write (frame r)).1.sync.2 : Nat) : Int) != 0) = true := by simp; omega
          have HS0 := Lib.hid hs0; clear hs0
          go_wp2_with fail
          go_ret
          have hcn : J.cnt r = J.n := by simp [JS.cnt, HP1.out, HS0.out]
          rw [hcn, HP1.out]
          exact ⟨rfl, dv3, H3.out, HJ3.out, HJM.out, JD3.out⟩
      · have hp : J.put r = J.d.write (frame r) := by rw [HP.out]; simp [hw0]
        have t0 : ((((J.d.write (frame r)).2 : Nat) : Int) != 0) = true := by simp; omega
        have HW0 := Lib.hid hw0; clear hw0
        have HP1 := Lib.hid hp; clear hp
        go_enter Try.func36, Try.ntmps36
        go_wp2_with (go_at_call 31; refine (valid_any _ _ _ _ (by omega)).mono ?_; rintro e w' ⟨rfl, rfl⟩)
        go_region_held3 (fun (w' : World) => w'.cell? ⟨j, 0, none⟩ = some (.pointer (some ⟨g, 0, none⟩))) (assumption)
          (first
            | (go_at_call 11; refine (Frame_any _ _ _ r _ (by exact HR.out)).mono ?_; rintro e w1 ⟨a1, c1', rfl, hown1, hb1⟩
               have jj1 : w1.cell? ⟨j, 0, none⟩ = some (.pointer (some ⟨g, 0, none⟩)) := (World.cell?_of_block (w := w) (hb1.block j hltj)).trans j0
               have HB1 : Hid (Below w.heap.size w w1) := ⟨hb1.os, hb1.tape, hb1.output, hb1.size, hb1.block⟩
               have HO1 : Hid (w1.ownsRow w.heap.size 5 1 (.slice a1 (frame r).length c1') (frame r).length ((frame r).map B)) := hown1
               clear hb1 hown1)
            | (go_at_call 18; refine (Write_any g base dv J.d _ (H.out.below HB1.out) a1 (frame r).length c1' (frame r) (by obtain ⟨_, _, ee, hs, _⟩ := ownsRow_sl HO1.out; obtain ⟨rfl, _, rfl⟩ := Value.slice.inj ee; exact hs) (fun _ y hy => ⟨by have := (HO1.out.lt y.block (by rw [hy]; rfl)).1; omega, fun e => by have := (HO1.out.lt y.block (by rw [hy]; rfl)).1; have := (H.out.own.lt _ e.symm).2; omega⟩)).mono ?_
               rintro e w2 ⟨rfl, dv2, h2, hm2⟩
               have jn2 := (HJ.out.below HB1.out).moved hm2 hjg HJD.out
               have jj2 := jn2.cell.1
               have HM2 := Lib.hid hm2; clear hm2
               have H2 := Lib.hid h2; clear h2
               have HJ2 := Lib.hid jn2; clear jn2))
        go_wp2_with fail
        go_ret
        have hcn : J.cnt r = J.n := by simp [JS.cnt, HP1.out, HW0.out]
        rw [hcn, HP1.out]
        refine ⟨rfl, dv2, H2.out, HJ2.out, ((Moved.ofBelowSame HB1.out).trans HM2.out).j j, fun e => ?_⟩
        have h1 := HB1.out.size
        rcases HM2.out.own j e with h | h
        · exact HJD.out h
        · omega
end Go.Proofs.Ytelbapljkefjcaa
