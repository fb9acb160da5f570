/-
  Frame, of the program and of the reference.
-/
import Derived.Test.YtelbapljkefjcaaLeaf
import Derived.Deep.RegionHeld3
import Derived.Deep.DeepCutAuto
namespace Go.Proofs.Ytelbapljkefjcaa
open Go.RowKit

/-- New bytes: what a call made, and nothing that was there has turned. -/
def Made (w : World) (l : List UInt8) (e : Ending) (w' : World) : Prop :=
  ∃ a c, e = .returned (.slice a l.length c) ∧ w'.ownsRow w.heap.size 5 1 (.slice a l.length c) l.length (l.map B) ∧ Below w.heap.size w w'

theorem splice_tri (cur X Y Z : List Value) (hX : X.length = 4) (hY : Y.length = 4) (hc : cur.length = 8 + Z.length) : splice (splice (splice cur 0 X) 4 Y) 8 Z = X ++ (Y ++ Z) := by
  have h1 : splice cur 0 X = X ++ cur.drop 4 := by simp [splice, hX]
  have h2 : splice (X ++ cur.drop 4) 4 Y = X ++ (Y ++ cur.drop 8) := by simp [splice, hX, hY, List.drop_append]
  have h3 : cur.drop (8 + Z.length) = [] := List.drop_eq_nil_of_le (by omega)
  rw [h1, h2]
  have h4 : (cur.drop 8).drop Z.length = [] := by rw [List.drop_drop]; exact h3
  have e8 : (X ++ Y).length = 8 := by rw [List.length_append, hX, hY]
  rw [← List.append_assoc X Y (cur.drop 8), ← List.append_assoc X Y Z]
  generalize X ++ Y = W at *
  simp only [splice]
  rw [List.take_left' e8, ← List.drop_drop, List.drop_left' e8, h4, List.append_nil]

set_option maxHeartbeats 800000 in
theorem Frame_any (a : Option Addr) (n c : Nat) (l : List UInt8) (w : World) (hv : Bs w a n c l) :
    Calls Try.prog 11 #[.slice a n c] w (Made w (frame l)) := by
  have hc := hv.le_cap
  have hm := hv.cap_le
  have hl := hv.length
  unfold maxLen at hm
  by_cases h : validB n = true
  · obtain ⟨h1, h2⟩ : 1 ≤ n ∧ n ≤ 8192 := by simpa [validB] using h
    go_enter Try.func11, Try.ntmps11
    go_wp2_with (first
      | (go_at_call 31; refine (valid_any _ _ _ _ (by omega)).mono ?_; rintro e w' ⟨rfl, rfl⟩)
      | (at_make; refine wpList_make_row rfl (.tmp 9) (.tmp 9) 23 rfl 5 (.int .u8 0) 1 Try.underlying23 info5 rfl .i64 .i64 _ _ (8 + n) rfl rfl (by omega) (by omega) (by omega) (by unfold maxLen; omega) ?_; intro w1 hg1 hgr1 hs1))
    refine (put_any w.heap.size 0 (8 + n) (8 + n) n _ 5 w1 hg1 ?h1 ?h2 ?h3 ?h4).mono ?_
    case h1 => simp; omega
    case h2 => omega
    case h3 => unfold maxLen; omega
    case h4 => omega
    rintro e w2 ⟨rfl, hg2, hgr2⟩
    have hs2 : w.heap.size < w2.heap.size := Nat.lt_of_lt_of_le hs1 hgr2.size
    have hb2 : Below w.heap.size w w2 := ((Below.refl _ _).grown hgr1 (Nat.le_refl _) (by simp)).grown hgr2 (by omega) (by simp)
    have hv2 : Bs w2 a n c l := hv.below hb2
    have hl2 := List.length_replicate (n := 8 + n) (a := Value.int .u8 0)
    generalize List.replicate (8 + n) (Value.int .u8 0) = cur at *
    have HG1 := Lib.hid hg1; clear hg1
    go_wp2_with fail
    have i1 : (4 : Int) ≤ 8 + (n : Int) := by omega
    have i2 : ¬ (8 + n = 4) := by omega
    have j1 : (8 : Int) ≤ 8 + (n : Int) := by omega
    have j2 : ¬ (8 + n = 8) := by omega
    go_region_held3 (fun _ => True) (trivial) (first
      | (go_at_call 33; refine (checksum_any _ _ _ _ _ (by exact hv2)).mono ?_; rintro e w' ⟨rfl, rfl⟩)
      | (go_at_call 32; refine (put_any w.heap.size 4 (8 + n - 4) (8 + n - 4) (adler l) _ 5 w2.drew hg2 (by simp [splice]; omega) (by omega) (by unfold maxLen; omega) (adler_lt l)).mono ?_; rintro e w3 ⟨rfl, hg3, hgr3⟩))
    have hb3 : Below w.heap.size w w3 := (hb2.drew).grown hgr3 (by simp; omega) (by simp)
    have hv3 : Bs w3 a n c l := hv.below hb3
    have HG2 := Lib.hid hg2; clear hg2
    have HG3 := Lib.hid hg3; clear hg3
    generalize hcur3 : splice (splice cur 0 ((be n).map B)) 4 ((be (adler l)).map B) = cur3 at *
    have hl3 : cur3.length = 8 + n := by rw [← hcur3]; simp [splice, hl2, be_length]; omega
    have HC := Lib.hid hcur3; clear hcur3
    have hc2 : 0 < (l.map B).length → some (⟨w.heap.size, 8, none⟩ : Addr) = some ⟨w.heap.size, 8, none⟩ ∧ ∃ ad, a = some ad ∧ ∀ j v, (l.map B)[j]? = some v → w3.cell? (ad.add j) = some v := by
      intro _
      obtain ⟨ad, rfl⟩ := Sl.pos hv3 (by omega)
      exact ⟨rfl, ad, rfl, Sl.cellAt hv3⟩
    have HC2 := Lib.hid hc2; clear hc2
    go_wp2_with (with_reducible refine wpList_copy_splice rfl (.tmp 22) (.tmp 23) 23 23 rfl 5 Try.underlying23 (by kernel_rfl) _ a n n n c rfl rfl w.heap.size 8 cur3 5 HG3.out (l.map B) (by simpa using hl) HC2.out (by simp; omega) (oneCell_B l) w.heap.size w hb3 (Nat.le_refl _) ?_; intro w4 HG4 hb4)
    go_ret
    have hfr : frame l = be n ++ (be (adler l) ++ l) := by simp only [frame, hl, h, if_true]
    have e : splice cur3 8 (l.map B) = (frame l).map B := by
      rw [← HC.out, hfr, List.map_append, List.map_append]
      exact splice_tri cur _ _ _ (by simp [be_length]) (by simp [be_length]) (by simp; omega)
    have hfl : (frame l).length = 8 + n := by rw [frame_length l (by rw [hl]; exact h), hl]
    have h4 := HG4.out
    rw [e] at h4
    have hown := ownsRow_of_heap (base := w.heap.size) (Nat.le_refl _) h4 (by simp [hfl, maxLen]; omega)
    simp only [List.length_map, hfl] at hown
    refine ⟨some ⟨w.heap.size, 0, none⟩, 8 + n, ?_, ?_, hb4⟩
    · rw [hfl]
      simp
    · rw [hfl]
      exact hown
  · have h' : validB n = false := by simpa using h
    have hf : frame l = [] := by simp only [frame, hl, h']; rfl
    rw [hf]
    have HF := Lib.hid hf; clear hf
    go_enter Try.func11, Try.ntmps11
    go_wp2_with (first
      | (go_at_call 31; refine (valid_any _ _ _ _ (by omega)).mono ?_; rintro e w' ⟨rfl, rfl⟩))
    go_ret
    exact ⟨none, 0, rfl, World.ownsRow_nil _ _ _ _, Below.refl _ _⟩

set_option maxHeartbeats 800000 in
theorem four_any (m : Nat) (w : World) (hm : m < 4294967296) :
    Calls Try.prog 48 #[.int .i64 m] w (Made w (be m)) := by
  go_enter Try.func48, Try.ntmps48
  go_wp2
  go_ret
  have e : (be m).map B = [.int .u8 (m / 16777216), .int .u8 (m / 65536 % 256), .int .u8 (m / 256 % 256), .int .u8 (m % 256)] := by
    simp [be, B]; omega
  refine ⟨some ⟨w.heap.size, 0, none⟩, 4, rfl, ?_, (Below.refl _ _).alloc (Nat.le_refl _) _⟩
  rw [e]
  exact ownsRow_of_heap (Nat.le_refl _) (heap_alloc_new w _) (by simp [maxLen])

set_option maxHeartbeats 800000 in
theorem RFrame_any (a : Option Addr) (n c : Nat) (l : List UInt8) (w : World) (hv : Bs w a n c l) :
    Calls Try.prog 44 #[.slice a n c] w (Made w (frame l)) := by
  have hc := hv.le_cap
  have hm := hv.cap_le
  have hl := hv.length
  unfold maxLen at hm
  by_cases h : validB n = true
  · obtain ⟨h1, h2⟩ : 1 ≤ n ∧ n ≤ 8192 := by simpa [validB] using h
    have hfr : frame l = be n ++ (be (adler l) ++ l) := by simp only [frame, hl, h, if_true]
    have HFR := Lib.hid hfr; clear hfr
    have HL := Lib.hid hl; clear hl
    go_enter Try.func44, Try.ntmps44
    go_wp2_with fail
    refine (four_any n _ (by omega)).mono ?_
    rintro e w1 ⟨a1, c1, rfl, hown1, hb1⟩
    have hv1 : Bs w1 a n c l := hv.below hb1
    go_wp2_with fail
    refine (rchecksum_any _ _ _ _ _ hv1).mono ?_
    rintro e w' ⟨rfl, rfl⟩
    go_wp2_with fail
    refine (four_any (adler l) _ (adler_lt l)).mono ?_
    rintro e w2 ⟨a2, c2, rfl, hown2, hb2⟩
    have hv2 : Bs w2 a n c l := hv1.below hb2
    have hk1 : w2.ownsRow w.heap.size 5 1 (.slice a1 (be n).length c1) (be n).length ((be n).map B) := ownsRow_below hown1 hb2
    obtain ⟨_, _, e2, hs2, _⟩ := ownsRow_sl hown2
    obtain ⟨rfl, _, rfl⟩ := Value.slice.inj e2
    have hbl := be_length
    go_wp2_with (first
      | (at_builtin; refine wpList_append_sl rfl (.tmp 13) (.tmp 16) 23 rfl w.heap.size 5 (.int .u8 0) 1 1 Try.underlying23 info5 rfl (by omega) (.slice a1 (be n).length c1) _ _ rfl hk1 a2 (be (adler l)).length c2 _ rfl hs2 (oneCell_B _) (by simp [be_length, maxLen]) (by simp [be_length]) (by have := hb1.size; have := hb2.size; omega) ?_; intro v3 w3 hown3 hgr3 _
         have hb3 : Below w.heap.size w w3 := (hb1.trans (hb2.mono hb1.size)).grown hgr3 (by have := hb1.size; have := hb2.size; omega) (fun k hk => (hk1.lt k hk).1)
         have hv3 : Bs w3 a n c l := hv.below hb3)
      | (at_builtin; refine wpList_append_sl rfl (.tmp 17) (.tmp 18) 23 rfl w.heap.size 5 (.int .u8 0) 1 1 Try.underlying23 info5 rfl (by omega) v3 _ _ rfl hown3 a n c _ rfl hv3 (oneCell_B _) (by simp [be_length, maxLen]; omega) (by simp [be_length]; omega) (by have := hb3.size; omega) ?_; intro v4 w4 hown4 hgr4 _
         have hb4 : Below w.heap.size w w4 := hb3.grown hgr4 (by have := hb3.size; omega) (fun k hk => (hown3.lt k hk).1)))
    go_ret
    obtain ⟨a4, c4, rfl, hs4, _⟩ := ownsRow_sl hown4
    have hfr := HFR.out
    have hL := HL.out
    have hfl : (frame l).length = 4 + 4 + n := by rw [hfr]; simp [be_length]; omega
    have hm4 : (be n).map B ++ (be (adler l)).map B ++ l.map B = (frame l).map B := by rw [hfr]; simp
    rw [hm4] at hown4
    refine ⟨a4, c4, ?_, ?_, hb4⟩
    · rw [hfl]; rfl
    · rw [hfl]; exact hown4
  · have h' : validB n = false := by simpa using h
    have hf : frame l = [] := by simp only [frame, hl, h']; rfl
    rw [hf]
    have HF := Lib.hid hf; clear hf
    by_cases h1 : n < 1
    · go_enter Try.func44, Try.ntmps44
      go_wp2_with fail
      go_ret
      exact ⟨none, 0, rfl, World.ownsRow_nil _ _ _ _, Below.refl _ _⟩
    · have h2 : 8192 < n := by simp [validB] at h'; omega
      go_enter Try.func44, Try.ntmps44
      go_wp2_with fail
      go_ret
      exact ⟨none, 0, rfl, World.ownsRow_nil _ _ _ _, Below.refl _ _⟩
end Go.Proofs.Ytelbapljkefjcaa
