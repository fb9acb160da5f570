/-
  Open, Append of the reference.
-/
import Derived.Test.YtelbapljkefjcaaJour2
namespace Go.Proofs.Ytelbapljkefjcaa
open Go.RowKit

set_option maxHeartbeats 1600000 in
theorem ROpen_any (g base : Nat) (dv : Value) (D : DS) (w : World) (h : Dev w base 56 g dv D) :
    Calls Try.prog 26 #[.pointer (some ⟨g, 0, none⟩)] w (OpenPost w base 56 54 g dv D) := by
  obtain ⟨c0, c1, c2, c3, c4⟩ := h.cell
  have hltg := h.lt
  have hlow := h.low
  have hfit := h.ok.fits
  have hcap := h.ok.cap
  have H := Lib.hid h; clear h
  obtain ⟨da, dc, rfl, hds⟩ := H.out.slice
  have HDS := Lib.hid hds; clear hds
  cases hoff : D.off with
  | true =>
    have ho : D.open = (D, [], 13) := by simp [DS.open, hoff]
    have HO := Lib.hid ho; clear ho
    rw [hoff] at c3
    clear hoff
    go_enter Try.func26, Try.ntmps26
    go_wp2
    go_ret3
    refine ⟨_, by rw [HO.out]; exact H.out, Moved.refl _ _ _, ?_⟩
    rw [HO.out]
    simp
  | false =>
    rw [hoff] at c3
    have HOFF := Lib.hid hoff; clear hoff
    go_enter Try.func26, Try.ntmps26
    go_wp2_with fail
    refine (RScan_any _ _ _ _ _ HDS.out (by omega)).mono ?_
    rintro e w1 ⟨a1, c1', rfl, hrec1, hb1⟩
    have HREC := Lib.hid hrec1; clear hrec1
    have hg1 : w1.heap[g]? = w.heap[g]? := hb1.block g hltg
    have d1 : w1.cell? ⟨g, 1, none⟩ = some (.slice da D.data.length dc) := (World.cell?_of_block (w := w) hg1).trans c1
    have HG1 := Lib.hid hg1; clear hg1
    have hsl := scan_length D.data
    have hs2 := scan_le D.data
    have HB1 := Lib.hid hb1; clear hb1
    have hz1 := HB1.out.size
    by_cases hlt : (scan D.data).2 < D.data.length
    · go_wp2_with fail
      refine (RTruncate_any g base _ D _ (H.out.below HB1.out) _).mono ?_
      rintro e w2 ⟨rfl, dv2, h2, hm2⟩
      by_cases ht : (D.trunc (scan D.data).2).2 = 0
      · have ho : D.open = ((D.trunc (scan D.data).2).1, (scan D.data).1, 0) := by simp [DS.open, HOFF.out, hlt, ht]
        have t : ((((D.trunc (scan D.data).2).2 : Nat) : Int) != 0) = false := by simp [ht]
        have HO := Lib.hid ho; clear ho
        have HT := Lib.hid ht; clear ht
        go_wp2_with fail
        go_ret3
        exact openPost_ok H.out HB1.out HREC.out hm2 h2 HO.out
      · have ho : D.open = ((D.trunc (scan D.data).2).1, [], (D.trunc (scan D.data).2).2) := by simp [DS.open, HOFF.out, hlt, ht]
        have t : ((((D.trunc (scan D.data).2).2 : Nat) : Int) != 0) = true := by simp; omega
        have HO := Lib.hid ho; clear ho
        have HT := Lib.hid ht; clear ht
        go_wp2_with fail
        go_ret3
        refine ⟨dv2, by rw [HO.out]; exact h2, (Moved.ofBelowSame HB1.out).trans hm2, ?_⟩
        rw [HO.out, if_neg HT.out]
        rfl
    · have ho : D.open = (D, (scan D.data).1, 0) := by simp [DS.open, HOFF.out, hlt]
      have HO := Lib.hid ho; clear ho
      go_wp2_with fail
      go_ret3
      exact openPost_ok H.out HB1.out HREC.out (Moved.refl _ _ _) (H.out.below HB1.out) HO.out

theorem frame_pos (r : List UInt8) (h : validB r.length = true) : 0 < (frame r).length := by rw [frame_length r h]; omega

set_option maxHeartbeats 1600000 in
theorem RAppend_any (j g base : Nat) (dv : Value) (J : JS) (w : World) (h : Dev w base 56 g dv J.d) (hj : Jn w base 54 j g J.n J.ended) (hjg : j ≠ g) (hjd : dv.ownBlock ≠ some j) (hn : J.n < 4611686018427387904)
    (a : Option Addr) (n c : Nat) (r : List UInt8) (hr : Bs w a n c r) :
    Calls Try.prog 30 #[.pointer (some ⟨j, 0, none⟩), .slice a n c] w (JPost w base 56 54 j g dv (J.append r).1.d (J.append r).1.n (J.append r).1.ended (J.append r).2) := by
  have hap : J.append r = ({ d := (J.put r).1, n := J.cnt r, ended := J.fin r }, (J.put r).2) := rfl
  rw [hap]
  clear hap
  obtain ⟨c0, c1, c2, c3, c4⟩ := h.cell
  obtain ⟨j0, j1, j2⟩ := hj.cell
  have f2 := hj.frozen 2
  have hl := hr.length
  have hlt := h.lt
  have hltj := hj.lt
  have H := Lib.hid h; clear h
  have HJ := Lib.hid hj; clear hj
  have HL := Lib.hid hl; clear hl
  have HR := Lib.hid hr; clear hr
  have HJD := Lib.hid hjd; clear hjd
  have hrc := HR.out.le_cap
  have hrm := HR.out.cap_le
  unfold maxLen at hrm
  cases hoff : (J.ended || J.d.off) with
  | true =>
    have hp : J.put r = (J.d, 13) := by simp [JS.put, hoff]
    have hcn : J.cnt r = J.n := by simp [JS.cnt, hp]
    have hfi : J.fin r = true := by simp [JS.fin, hp]
    rw [hp, hcn, hfi]; clear hp hcn hfi
    cases he : J.ended with
    | true =>
      rw [he] at j2
      clear hoff
      go_enter Try.func30, Try.ntmps30
      go_wp2_with fail
      go_ret
      refine ⟨rfl, _, H.out.setOther hjg HJD.out 2 _, ⟨HJ.out.low, ?_⟩, ((Moved.refl _ _ _).j _).setCell _ _, HJD.out⟩
      rw [heap_setCell_same _ j 2 _ 54 _ HJ.out.heap]
      rfl
    | false =>
      have ho : J.d.off = true := by simpa [he] using hoff
      rw [he] at j2
      rw [ho] at c3
      clear hoff ho
      go_enter Try.func30, Try.ntmps30
      go_wp2_with fail
      go_ret
      refine ⟨rfl, _, H.out.setOther hjg HJD.out 2 _, ⟨HJ.out.low, ?_⟩, ((Moved.refl _ _ _).j _).setCell _ _, HJD.out⟩
      rw [heap_setCell_same _ j 2 _ 54 _ HJ.out.heap]
      rfl
  | false =>
    obtain ⟨he, ho⟩ : J.ended = false ∧ J.d.off = false := by simpa using hoff
    rw [he] at j2
    rw [ho] at c3
    have HOFF := Lib.hid hoff; clear hoff
    have HE := Lib.hid he; clear he
    have HO := Lib.hid ho; clear ho
    cases hval : validB n with
    | false =>
      have hp : J.put r = (J.d, 1) := by simp [JS.put, HOFF.out, HL.out, hval]
      have hcn : J.cnt r = J.n := by simp [JS.cnt, hp]
      have hfi : J.fin r = J.ended := by simp [JS.fin, hp]
      rw [hp, hcn, hfi]; clear hp hcn hfi
      have hf0 : (frame r).length = 0 := by simp [frame, HL.out, hval]
      have HF0 := Lib.hid hf0; clear hf0
      go_enter Try.func30, Try.ntmps30
      go_wp2_with fail
      refine (RFrame_any _ _ _ r _ HR.out).mono ?_
      rintro e w1 ⟨a1, c1', rfl, hown1, hb1⟩
      rw [HF0.out]
      clear hown1
      have HB1 := Lib.hid hb1; clear hb1
      go_wp2_with fail
      go_ret
      exact ⟨rfl, _, H.out.below HB1.out, HJ.out.below HB1.out, (Moved.ofBelowSame HB1.out).j _, HJD.out⟩
    | true =>
      have hp : J.put r = if (J.d.write (frame r)).2 ≠ 0 then J.d.write (frame r) else (J.d.write (frame r)).1.sync := by simp [JS.put, HOFF.out, HL.out, hval]
      have HP := Lib.hid hp; clear hp
      have hfp := frame_pos r (by rw [HL.out]; exact hval)
      have hfp1 : ((((frame r).length : Nat) : Int) == 0) = false := beq_eq_false_iff_ne.2 (by omega)
      go_enter Try.func30, Try.ntmps30
      go_wp2_with fail
      refine (RFrame_any _ _ _ r _ HR.out).mono ?_
      rintro e w1 ⟨a1, c1', rfl, hown1, hb1⟩
      have jj1 : w1.cell? ⟨j, 0, none⟩ = some (.pointer (some ⟨g, 0, none⟩)) := (World.cell?_of_block (w := w) (hb1.block j hltj)).trans j0
      have HB1 := Lib.hid hb1; clear hb1
      have HO1 := Lib.hid hown1; clear hown1
      go_wp2_with fail
      refine (RWrite_any g base dv J.d _ (H.out.below HB1.out) a1 (frame r).length c1' (frame r) (by obtain ⟨_, _, ee, hs, _⟩ := ownsRow_sl HO1.out; obtain ⟨rfl, _, rfl⟩ := Value.slice.inj ee; exact hs) (fun _ y hy => ⟨by have := (HO1.out.lt y.block (by rw [hy]; rfl)).1; omega, fun e => by have := (HO1.out.lt y.block (by rw [hy]; rfl)).1; have := (H.out.own.lt _ e.symm).2; omega⟩)).mono ?_
      rintro e w2 ⟨rfl, dv2, h2, hm2⟩
      have jn2 := (HJ.out.below HB1.out).moved hm2 hjg HJD.out
      obtain ⟨jj2, kk2, ll2⟩ := jn2.cell
      have ff1 := jn2.frozen 1
      have ff2 := jn2.frozen 2
      have HM2 := Lib.hid hm2; clear hm2
      have H2 := Lib.hid h2; clear h2
      have HJ2 := Lib.hid jn2; clear jn2
      have JD2 : Hid (dv2.ownBlock ≠ some j) := fun e => by
        have h1 := HB1.out.size
        rcases HM2.out.own j e with h | h
        · exact HJD.out h
        · omega
      have HJM2 : Hid (JMoved w w2 j g dv dv2) := ((Moved.ofBelowSame HB1.out).trans HM2.out).j j
      by_cases hw0 : (J.d.write (frame r)).2 = 0
      · have hp : J.put r = (J.d.write (frame r)).1.sync := by rw [HP.out]; simp [hw0]
        have t0 : ((((J.d.write (frame r)).2 : Nat) : Int) == 0) = true := by simp [hw0]
        have HW0 := Lib.hid hw0; clear hw0
        have HP1 := Lib.hid hp; clear hp
        go_wp2_with fail
        refine (RSync_any g base dv2 _ _ H2.out).mono ?_
        rintro e w3 ⟨rfl, dv3, h3, hm3⟩
        have JD3 : Hid (dv3.ownBlock ≠ some j) := fun e => by
          have h1 := HB1.out.size
          have h2 := HM2.out.size
          rcases hm3.own j e with h | h
          · exact JD2.out h
          · omega
        have jn3 := HJ2.out.moved hm3 hjg JD2.out
        obtain ⟨k0, k1, k2⟩ := jn3.cell
        have f1 := jn3.frozen 1
        have f2 := jn3.frozen 2
        have HJM : Hid (JMoved w w3 j g dv dv3) := HJM2.out.trans (hm3.j j)
        have HJ3 := Lib.hid jn3; clear jn3
        have H3 := Lib.hid h3; clear h3
        clear hm3
        by_cases hs0 : (J.d.write (frame r)).1.sync.2 = 0
        · have t1 : ((((J.d.write (frame r)).1.sync.2 : Nat) : Int) == 0) = true := by simp [hs0]
          have t2 : ((((J.d.write (frame r)).1.sync.2 : Nat) : Int) == 13) = false := by simp [hs0]
          have HS0 := Lib.hid hs0; clear hs0
          go_wp2_with fail
          go_ret
          have hcn : J.cnt r = J.n + 1 := by simp [JS.cnt, HP1.out, HS0.out]
          have hfi : J.fin r = J.ended := by simp [JS.fin, HP1.out, HS0.out]
          rw [hcn, hfi, HP1.out]
          refine ⟨rfl, dv3, H3.out.setOther hjg JD3.out 1 _, ⟨HJ3.out.low, ?_⟩, HJM.out.setCell _ _, JD3.out⟩
          rw [heap_setCell_same _ j 1 _ 54 _ HJ3.out.heap]
          rfl
        · have t1 : ((((J.d.write (frame r)).1.sync.2 : Nat) : Int) == 0) = false := by simp; omega
          by_cases hs13 : (J.d.write (frame r)).1.sync.2 = 13
          · have t2 : ((((J.d.write (frame r)).1.sync.2 : Nat) : Int) == 13) = true := by simp [hs13]
            have HS0 := Lib.hid hs0; clear hs0
            have HS13 := Lib.hid hs13; clear hs13
            go_wp2_with fail
            go_ret
            have hcn : J.cnt r = J.n := by simp [JS.cnt, HP1.out, HS0.out]
            have hfi : J.fin r = true := by simp [JS.fin, HP1.out, HS13.out]
            rw [hcn, hfi, HP1.out]
            refine ⟨rfl, dv3, H3.out.setOther hjg JD3.out 2 _, ⟨HJ3.out.low, ?_⟩, HJM.out.setCell _ _, JD3.out⟩
            rw [heap_setCell_same _ j 2 _ 54 _ HJ3.out.heap]
            rfl
          · have t2 : ((((J.d.write (frame r)).1.sync.2 : Nat) : Int) == 13) = false := by simp; omega
            have HS0 := Lib.hid hs0; clear hs0
            have HS13 := Lib.hid hs13; clear hs13
            go_wp2_with fail
            go_ret
            have hcn : J.cnt r = J.n := by simp [JS.cnt, HP1.out, HS0.out]
            have hfi : J.fin r = J.ended := by simp [JS.fin, HP1.out, HS13.out]
            rw [hcn, hfi, HP1.out]
            exact ⟨rfl, dv3, H3.out, HJ3.out, HJM.out, JD3.out⟩
      · have hp : J.put r = J.d.write (frame r) := by rw [HP.out]; simp [hw0]
        have t0 : ((((J.d.write (frame r)).2 : Nat) : Int) == 0) = false := by simp; omega
        have HP1 := Lib.hid hp; clear hp
        by_cases hs13 : (J.d.write (frame r)).2 = 13
        · have t2 : ((((J.d.write (frame r)).2 : Nat) : Int) == 13) = true := by simp [hs13]
          have HW0 := Lib.hid hw0; clear hw0
          have HS13 := Lib.hid hs13; clear hs13
          go_wp2_with fail
          go_ret
          have hcn : J.cnt r = J.n := by simp [JS.cnt, HP1.out, HW0.out]
          have hfi : J.fin r = true := by simp [JS.fin, HP1.out, HS13.out]
          rw [hcn, hfi, HP1.out]
          refine ⟨rfl, dv2, H2.out.setOther hjg JD2.out 2 _, ⟨HJ2.out.low, ?_⟩, HJM2.out.setCell _ _, JD2.out⟩
          rw [heap_setCell_same _ j 2 _ 54 _ HJ2.out.heap]
          rfl
        · have t2 : ((((J.d.write (frame r)).2 : Nat) : Int) == 13) = false := by simp; omega
          have HW0 := Lib.hid hw0; clear hw0
          have HS13 := Lib.hid hs13; clear hs13
          go_wp2_with fail
          go_ret
          have hcn : J.cnt r = J.n := by simp [JS.cnt, HP1.out, HW0.out]
          have hfi : J.fin r = J.ended := by simp [JS.fin, HP1.out, HS13.out]
          rw [hcn, hfi, HP1.out]
          exact ⟨rfl, dv2, H2.out, HJ2.out, HJM2.out, JD2.out⟩
end Go.Proofs.Ytelbapljkefjcaa
