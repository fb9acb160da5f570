/-
  Append, Len, Open of the program.
-/
import Derived.Test.YtelbapljkefjcaaJour
namespace Go.Proofs.Ytelbapljkefjcaa
open Go.RowKit

set_option maxHeartbeats 800000 in
theorem Append_any (j g base : Nat) (dv : Value) (J : JS) (w : World) (h : Dev w base 63 g dv J.d) (hj : Jn w base 66 j g J.n J.ended) (hjg : j ≠ g) (hjd : dv.ownBlock ≠ some j) (hn : J.n < 4611686018427387904)
    (a : Option Addr) (n c : Nat) (r : List UInt8) (hr : Bs w a n c r) :
    Calls Try.prog 16 #[.pointer (some ⟨j, 0, none⟩), .slice a n c] w (JPost w base 63 66 j g dv (J.append r).1.d (J.append r).1.n (J.append r).1.ended (J.append r).2) := by
  have hap : J.append r = ({ d := (J.put r).1, n := J.cnt r, ended := J.fin r }, (J.put r).2) := rfl
  rw [hap]
  clear hap
  have H := Lib.hid h; clear h
  have HJ := Lib.hid hj; clear hj
  have HR := Lib.hid hr; clear hr
  have HJD := Lib.hid hjd; clear hjd
  by_cases h13 : (J.put r).2 = 13
  · have hf : J.fin r = true := by simp [JS.fin, h13]
    have HF := Lib.hid hf; clear hf
    have t : ((((J.put r).2 : Nat) : Int) == 13) = true := by simp [h13]
    have H13 := Lib.hid h13; clear h13
    go_enter Try.func16, Try.ntmps16
    go_wp2_with fail
    refine (append_any j g base dv J _ H.out HJ.out hjg HJD.out hn a n c r HR.out).mono ?_
    rintro e w1 ⟨rfl, dv1, h1, hj1, hm1, hjd1⟩
    obtain ⟨j0, j1, j2⟩ := hj1.cell
    have f2 := hj1.frozen 2
    have H1 := Lib.hid h1; clear h1
    have HJ1 := Lib.hid hj1; clear hj1
    have HJD1 := Lib.hid hjd1; clear hjd1
    go_wp2_with fail
    go_ret
    rw [HF.out]
    refine ⟨rfl, dv1, H1.out.setOther hjg HJD1.out 2 _, ⟨HJ1.out.low, ?_⟩, hm1.setCell _ _, HJD1.out⟩
    rw [heap_setCell_same _ j 2 _ 66 _ HJ1.out.heap]
    rfl
  · have hf : J.fin r = J.ended := by simp [JS.fin, h13]
    have HF := Lib.hid hf; clear hf
    have t : ((((J.put r).2 : Nat) : Int) == 13) = false := by simp; omega
    have H13 := Lib.hid h13; clear h13
    go_enter Try.func16, Try.ntmps16
    go_wp2_with fail
    refine (append_any j g base dv J _ H.out HJ.out hjg HJD.out hn a n c r HR.out).mono ?_
    rintro e w1 ⟨rfl, dv1, h1, hj1, hm1, hjd1⟩
    have H1 := Lib.hid h1; clear h1
    have HJ1 := Lib.hid hj1; clear hj1
    have HJD1 := Lib.hid hjd1; clear hjd1
    go_wp2_with fail
    go_ret
    rw [HF.out]
    exact ⟨rfl, dv1, H1.out, HJ1.out, hm1, HJD1.out⟩

set_option maxHeartbeats 400000 in
theorem Len_any (j g base n : Nat) (ended : Bool) (w : World) (hj : Jn w base 66 j g n ended) :
    Calls Try.prog 17 #[.pointer (some ⟨j, 0, none⟩)] w fun e w' => e = .returned (.int .i64 n) ∧ w = w' := by
  obtain ⟨j0, j1, j2⟩ := hj.cell
  clear hj
  go_enter Try.func17, Try.ntmps17
  go_wp2
  go_ret
  exact ⟨rfl, rfl⟩

/-- What Open leaves: the device and, where there is no error, a new journal and the records. -/
def OpenPost (w : World) (base T TJ g : Nat) (dv : Value) (D : DS) (e : Ending) (w' : World) : Prop :=
  ∃ dv', Dev w' base T g dv' D.open.1 ∧ Moved w w' g dv dv' ∧
    if D.open.2.2 = 0 then ∃ j a c, e = .returned (.tuple #[.pointer (some ⟨j, 0, none⟩), .slice a D.open.2.1.length c, .int .i64 0]) ∧ Jn w' base TJ j g D.open.2.1.length false ∧ w.heap.size ≤ j ∧ dv'.ownBlock ≠ some j ∧ OwnRecs w' w.heap.size (.slice a D.open.2.1.length c) D.open.2.1
    else e = .returned (.tuple #[.pointer none, .slice none 0 0, .int .i64 D.open.2.2])

theorem Moved.alloc {a b : World} {g : Nat} {u v : Value} (h : Moved a b g u v) (o : Obj) : Moved a (b.alloc o) g u v :=
  ⟨h.os, h.tape, h.output, by have := h.size; simp; omega, fun k hk h1 h2 => (Below.heap_alloc b o k (Nat.lt_of_lt_of_le hk h.size)).trans (h.block k hk h1 h2), h.own⟩
theorem Below.allocR (w : World) (o : Obj) : Below w.heap.size w (w.alloc o) := (Below.refl _ _).alloc (Nat.le_refl _) o

/-- The end of Open, where all went well. -/
theorem openPost_ok {w w1 w2 : World} {base T TJ g : Nat} {dv dv2 : Value} {D D2 : DS} {a : Option Addr} {c : Nat} {L : List (List UInt8)} (hd : Dev w base T g dv D) (hb1 : Below w.heap.size w w1) (hrec : OwnRecs w1 w.heap.size (.slice a L.length c) L) (hm2 : Moved w1 w2 g dv dv2) (h2 : Dev w2 base T g dv2 D2)
    (ho : D.open = (D2, L, 0)) : OpenPost w base T TJ g dv D (.returned (.tuple #[.pointer (some ⟨w2.heap.size, 0, none⟩), .slice a L.length c, .int .i64 0])) (w2.alloc (.cells #[.pointer (some ⟨g, 0, none⟩), .int .i64 L.length, .bool false] TJ)) := by
  have hz1 := hb1.size
  have hz2 := hm2.size
  have hlt := hd.lt
  have hlow := hd.low
  have hm := ((Moved.ofBelowSame (g := g) (dv := dv) hb1).trans hm2).alloc (.cells #[.pointer (some ⟨g, 0, none⟩), .int .i64 L.length, .bool false] TJ)
  refine ⟨dv2, by rw [ho]; exact h2.below (Below.allocR _ _), hm, ?_⟩
  rw [ho]
  refine ⟨w2.heap.size, a, c, rfl, ⟨by omega, heap_alloc_new w2 _⟩, by omega, fun e => by have := (h2.own.lt _ e).2; omega, ?_⟩
  refine OwnRecs.keep hrec (by simp; omega) fun b hb hb1' => ?_
  rw [Below.heap_alloc w2 _ b (by omega)]
  exact hm2.block b hb1' (by omega) fun e => by have := (hd.own.lt _ e.symm).2; omega

theorem scan_length (l : List UInt8) : (scan l).1.length ≤ l.length := by
  generalize hn : l.length = n
  induction n using Nat.strongRecOn generalizing l with
  | _ n ih =>
    by_cases h : headB l = true
    · rw [scan_yes h]
      have h' := headB_spec h
      have := ih (l.drop (8 + be4 l)).length (by simp only [List.length_drop]; omega) _ rfl
      simp only [List.length_drop] at this
      simp only [List.length_cons]
      omega
    · rw [scan_no (by simpa using h)]
      simp

set_option maxHeartbeats 1600000 in
theorem Open_any (g base : Nat) (dv : Value) (D : DS) (w : World) (h : Dev w base 63 g dv D) :
    Calls Try.prog 15 #[.pointer (some ⟨g, 0, none⟩)] w (OpenPost w base 63 66 g dv D) := by
  obtain ⟨c0, c1, c2, c3, c4⟩ := h.cell
  have hltg := h.lt
  have hlow := h.low
  have hfit := h.ok.fits
  have hcap := h.ok.cap
  have H := Lib.hid h; clear h
  obtain ⟨da, dc, rfl, hds⟩ := H.out.slice
  have HDS := Lib.hid hds; clear hds
  cases hoff : D.off with
  | true =>
    have ho : D.open = (D, [], 13) := by simp [DS.open, hoff]
    have HO := Lib.hid ho; clear ho
    rw [hoff] at c3
    clear hoff
    go_enter Try.func15, Try.ntmps15
    go_wp2
    go_ret3
    refine ⟨_, by rw [HO.out]; exact H.out, Moved.refl _ _ _, ?_⟩
    rw [HO.out]
    simp
  | false =>
    rw [hoff] at c3
    have HOFF := Lib.hid hoff; clear hoff
    go_enter Try.func15, Try.ntmps15
    go_wp2_with fail
    refine (Scan_any _ _ _ _ _ HDS.out (by omega)).mono ?_
    rintro e w1 ⟨a1, c1', rfl, hrec1, hb1⟩
    have HREC := Lib.hid hrec1; clear hrec1
    have hg1 : w1.heap[g]? = w.heap[g]? := hb1.block g hltg
    have d1 : w1.cell? ⟨g, 1, none⟩ = some (.slice da D.data.length dc) := (World.cell?_of_block (w := w) hg1).trans c1
    have HG1 := Lib.hid hg1; clear hg1
    have hsl := scan_length D.data
    have hs2 := scan_le D.data
    have HB1 := Lib.hid hb1; clear hb1
    have hz1 := HB1.out.size
    by_cases hlt : (scan D.data).2 < D.data.length
    · go_wp2_with fail
      refine (Truncate_any g base _ D _ (H.out.below HB1.out) _).mono ?_
      rintro e w2 ⟨rfl, dv2, h2, hm2⟩
      by_cases ht : (D.trunc (scan D.data).2).2 = 0
      · have ho : D.open = ((D.trunc (scan D.data).2).1, (scan D.data).1, 0) := by simp [DS.open, HOFF.out, hlt, ht]
        have t : ((((D.trunc (scan D.data).2).2 : Nat) : Int) != 0) = false := by simp [ht]
        have HO := Lib.hid ho; clear ho
        have HT := Lib.hid ht; clear ht
        go_wp2_with fail
        go_ret3
        exact openPost_ok H.out HB1.out HREC.out hm2 h2 HO.out
      · have ho : D.open = ((D.trunc (scan D.data).2).1, [], (D.trunc (scan D.data).2).2) := by simp [DS.open, HOFF.out, hlt, ht]
        have t : ((((D.trunc (scan D.data).2).2 : Nat) : Int) != 0) = true := by simp; omega
        have HO := Lib.hid ho; clear ho
        have HT := Lib.hid ht; clear ht
        go_wp2_with fail
        go_ret3
        refine ⟨dv2, by rw [HO.out]; exact h2, (Moved.ofBelowSame HB1.out).trans hm2, ?_⟩
        rw [HO.out, if_neg HT.out]
        rfl
    · have ho : D.open = (D, (scan D.data).1, 0) := by simp [DS.open, HOFF.out, hlt]
      have HO := Lib.hid ho; clear ho
      go_wp2_with fail
      go_ret3
      exact openPost_ok H.out HB1.out HREC.out (Moved.refl _ _ _) (H.out.below HB1.out) HO.out
end Go.Proofs.Ytelbapljkefjcaa
