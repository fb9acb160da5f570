/-
  Write, Sync, Truncate, Crash, Fail: the program's and the reference's.
-/
import Derived.Test.YtelbapljkefjcaaDev
namespace Go.Proofs.Ytelbapljkefjcaa
open Go.RowKit

def DevPost (w : World) (base : Nat) (T g : Nat) (dv : Value) (r : DS) (v : Value) (e : Ending) (w' : World) : Prop :=
  e = .returned v ∧ ∃ dv', Dev w' base T g dv' r ∧ Moved w w' g dv dv'

/-- The slice in the device's field is replaced by another that is owned. -/
theorem Dev.setData {w w2 : World} {base T g : Nat} {dv v2 : Value} {D : DS} {d : List UInt8} (h : Dev w base T g dv D) (hm : Moved w w2 g dv v2) (hg : w2.heap[g]? = w.heap[g]?) (hown : w2.ownsRow base 5 1 v2 d.length (d.map B))
    (ok : ({ D with data := d } : DS).Ok) : Dev (w2.setCell ⟨g, 1, none⟩ v2) base T g v2 { D with data := d } ∧ Moved w (w2.setCell ⟨g, 1, none⟩ v2) g dv v2 := by
  have hne : v2.ownBlock ≠ some g := fun e => by
    rcases hm.own g e with h' | h'
    · exact h.ne h'
    · have := h.lt; omega
  refine ⟨⟨h.low, ?_, ?_, hne, ok⟩, hm.setCell _ _⟩
  · rw [heap_setCell_same w2 g 1 _ T v2 (hg.trans h.heap)]; rfl
  · exact ownsRow_keep hown fun b hb _ => heap_setCell_other w2 ⟨g, 1, none⟩ b v2 (fun e => hne (by rw [hb, e]))

theorem Moved.ofGrown {w w2 : World} {g : Nat} {dv v2 : Value} (h : w.grownBy w2 dv.ownBlock) (hb : v2.ownBlock = dv.ownBlock ∨ v2.ownBlock = some w.heap.size) : Moved w w2 g dv v2 :=
  ⟨h.os, h.tape, h.output, h.size, fun k hk _ hne => h.block k hk hne, fun k hk => by
    rcases hb with e | e
    · exact .inl (e ▸ hk)
    · rw [e] at hk; cases hk; exact .inr (Nat.le_refl _)⟩
theorem Moved.ofBelow {w w2 : World} {g : Nat} {dv v2 : Value} (h : Below w.heap.size w w2) (hb : ∀ k, v2.ownBlock = some k → w.heap.size ≤ k) : Moved w w2 g dv v2 :=
  ⟨h.os, h.tape, h.output, h.size, fun k hk _ _ => h.block k hk, fun k hk => .inr (hb k hk)⟩

set_option maxHeartbeats 800000 in
theorem Write_any (g base : Nat) (dv : Value) (D : DS) (w : World) (h : Dev w base 63 g dv D) (a : Option Addr) (n c : Nat) (b : List UInt8) (hb : Bs w a n c b) (hn : 0 < n → ∀ y, a = some y → y.block ≠ g ∧ some y.block ≠ dv.ownBlock) :
    Calls Try.prog 18 #[.pointer (some ⟨g, 0, none⟩), .slice a n c] w (DevPost w base 63 g dv (D.write b).1 (.int .i64 (D.write b).2)) := by
  obtain ⟨c0, c1, c2, c3, c4⟩ := h.cell
  have f1 := h.frozen 1
  have hl := hb.length
  have hfit := h.ok.fits
  have hcap := h.ok.cap
  have hnc := hb.le_cap
  have hcm := hb.cap_le
  unfold maxLen at hcm
  have H := Lib.hid h; clear h
  have HB := Lib.hid hb; clear hb
  have HN := Lib.hid hn; clear hn
  have HL := Lib.hid hl; clear hl
  obtain ⟨da, dc, rfl, hds⟩ := H.out.slice
  have HDS := Lib.hid hds; clear hds
  cases hoff : D.off with
  | true =>
    have hw : D.write b = (D, 13) := by simp [DS.write, hoff]
    rw [hw]; clear hw
    rw [hoff] at c3
    have HOFF := Lib.hid hoff; clear hoff
    go_enter Try.func18, Try.ntmps18
    go_wp2
    go_ret
    exact ⟨rfl, _, H.out, Moved.refl _ _ _⟩
  | false =>
    rw [hoff] at c3
    have HOFF := Lib.hid hoff; clear hoff
    by_cases hfull : D.size - D.data.length < n
    · have hw : D.write b = (D, 12) := by simp [DS.write, HOFF.out, HL.out, hfull]
      rw [hw]; clear hw
      have t1 : decide ((D.size : Int) - (D.data.length : Int) < (n : Int)) = true := by simp; omega
      go_enter Try.func18, Try.ntmps18
      go_wp2_with fail
      go_quiet (fail)
      go_wp2_with fail
      go_ret
      exact ⟨rfl, _, H.out.drewN _, (Moved.refl _ _ _).drewN _⟩
    · have t1 : decide ((D.size : Int) - (D.data.length : Int) < (n : Int)) = false := by simp; omega
      go_enter Try.func18, Try.ntmps18
      go_wp2_with fail
      go_quiet (fail)
      go_wp2_with fail
      refine (operate_any g base _ D _ (H.out.drewN _)).mono ?_
      rintro e w1 ⟨rfl, h1, hm1⟩
      have hdat := D.operate_data
      cases hop : D.operate.2 with
      | false =>
        have hw : D.write b = (D.operate.1, 13) := by simp [DS.write, HOFF.out, HL.out, hfull, hop]
        have HW := Lib.hid hw; clear hw
        simp only [errno_false]
        go_wp2_with fail
        go_ret
        rw [HW.out]
        exact ⟨rfl, _, h1, ((Moved.refl _ _ _).drewN _).trans hm1⟩
      | true =>
        have hw : D.write b = ({ D.operate.1 with data := D.data ++ b }, 0) := by simp [DS.write, HOFF.out, HL.out, hfull, hop]
        have hok := H.out.ok.write b
        rw [hw] at hok
        have HW := Lib.hid hw; clear hw
        simp only [errno_true]
        have hlow := h1.low
        have hltg := h1.lt
        obtain ⟨d0, d1, d2, d3, d4⟩ := h1.cell
        have e1 := h1.frozen 1
        have hown := h1.own
        rw [hdat.1] at hown
        have HOWN := Lib.hid hown; clear hown
        have hb1 : Bs w1 a n c b := HB.out.moveTo fun hn0 y ha hlt => by
          have k1 := HN.out hn0 _ ha
          exact hm1.block y.block hlt k1.1 k1.2
        have HB1 := Lib.hid hb1; clear hb1
        have HDAT := Lib.hid hdat; clear hdat
        have H1 := Lib.hid h1; clear h1
        have HOK := Lib.hid hok; clear hok
        clear hop
        have hl2 : (D.data ++ b).length = D.data.length + n := by rw [List.length_append, HL.out]
        have HL2 := Lib.hid hl2; clear hl2
        go_wp2_with (at_builtin; refine wpList_append_to rfl (.tmp 34) (.tmp 35) 23 rfl base 5 (.int .u8 0) 1 1 Try.underlying23 info5 rfl (by omega) (.slice da D.data.length dc) _ _ rfl HOWN.out a n c _ rfl HB1.out (oneCell_B _) (by unfold maxLen; omega) (by omega) (by omega) _ HL2.out _ (List.map_append (f := B) (l₁ := D.data) (l₂ := b)) ?_; intro a2 c2 w2 hown2 hgr2 hblk2
                     have hg2 : w2.heap[g]? = w1.heap[g]? := hgr2.block g hltg (fun e => H1.out.ne e.symm)
                     have HFIN := Lib.hid (H1.out.setData (Moved.ofGrown hgr2 hblk2) hg2 hown2 HOK.out)
                     have k1 : w2.cell? ⟨g, 1, none⟩ = some (.slice da D.data.length dc) := (World.cell?_of_block (w := w1) hg2).trans d1
                     have k2 : w2.frozen? ⟨g, 1, none⟩ = false := (World.frozen?_of_block (w := w1) hg2).trans e1
                     clear hg2 hown2)
        go_ret
        rw [HW.out]
        have hf := HFIN.out
        rw [List.length_append] at hf
        exact ⟨rfl, _, hf.1, ((Moved.refl _ _ _).drewN _).trans (hm1.trans hf.2)⟩
end Go.Proofs.Ytelbapljkefjcaa
