/-
  Scan of frames. No program here.
-/
import Derived.Test.YtelbapljkefjcaaPlain3
namespace Go.Proofs.Ytelbapljkefjcaa

theorem frame_eq (r : List UInt8) (h : validB r.length = true) : frame r = be r.length ++ (be (adler r) ++ r) := by simp [frame, h]
theorem valid_le {n : Nat} (h : validB n = true) : 1 ≤ n ∧ n ≤ 8192 := by simpa [validB] using h

theorem frame_head (r x : List UInt8) (h : validB r.length = true) : be4 (frame r ++ x) = r.length := by
  have := valid_le h
  rw [frame_eq r h, List.append_assoc]
  exact be4_be _ (by omega) _
theorem frame_drop4 (r x : List UInt8) (h : validB r.length = true) : (frame r ++ x).drop 4 = be (adler r) ++ (r ++ x) := by
  rw [frame_eq r h]
  simp only [List.append_assoc]
  exact List.drop_left' (be_length _)
theorem frame_drop8 (r x : List UInt8) (h : validB r.length = true) : (frame r ++ x).drop 8 = r ++ x := by
  have := frame_drop4 r x h
  rw [show 8 = 4 + 4 from rfl, ← List.drop_drop, this]
  exact List.drop_left' (be_length _)

theorem headB_frame (r x : List UInt8) (h : validB r.length = true) : headB (frame r ++ x) = true := by
  have hv := valid_le h
  have h1 := frame_head r x h
  have h2 := frame_drop8 r x h
  have h3 := frame_drop4 r x h
  have hl := frame_length r h
  have e1 : ((frame r ++ x).drop 8).take r.length = r := by rw [h2]; exact List.take_left' rfl
  have e2 : be4 ((frame r ++ x).drop 4) = adler r := by rw [h3]; exact be4_be _ (adler_lt r) _
  have e3 : (frame r ++ x).length = 8 + r.length + x.length := by rw [List.length_append, hl]
  simp only [headB, h1, e1, e2, e3]
  simp
  omega

theorem scan_frame (r x : List UInt8) (h : validB r.length = true) : scan (frame r ++ x) = (r :: (scan x).1, 8 + r.length + (scan x).2) := by
  rw [scan_yes (headB_frame r x h), frame_head r x h, frame_drop8 r x h]
  have e1 : (r ++ x).take r.length = r := List.take_left' rfl
  have e2 : (frame r ++ x).drop (8 + r.length) = x := by rw [← List.drop_drop, frame_drop8 r x h]; exact List.drop_left' rfl
  rw [e1, e2]

theorem scan_nil : scan [] = ([], 0) := scan_no (by rfl)

theorem scan_prefix (r : List UInt8) (cut : Nat) (hc : cut < (frame r).length) : scan ((frame r).take cut) = ([], 0) := by
  have hv : validB r.length = true := by
    cases h : validB r.length with
    | true => rfl
    | false => simp [frame, h] at hc
  have hl := frame_length r hv
  have hle := valid_le hv
  have hlen : ((frame r).take cut).length = cut := by rw [List.length_take]; omega
  apply scan_no
  by_cases h8 : cut < 8
  · simp [headB]; omega
  · have h4 : be4 ((frame r).take cut) = r.length := by
      have h0 := frame_head r [] hv
      rw [List.append_nil] at h0
      rw [← h0]
      have g : ∀ i, i < 8 → ((frame r).take cut).getD i 0 = (frame r).getD i 0 := fun i hi => by
        simp only [List.getD, List.getElem?_take]
        rw [if_pos (by omega)]
      simp only [be4, g 0 (by omega), g 1 (by omega), g 2 (by omega), g 3 (by omega)]
    simp only [headB, h4, hlen]
    simp
    omega

def frames (L : List (List UInt8)) : List UInt8 := (L.map frame).flatten
theorem frames_nil : frames [] = [] := rfl
theorem frames_snoc (L : List (List UInt8)) (r : List UInt8) : frames (L ++ [r]) = frames L ++ frame r := by simp [frames]

theorem scan_frames (L : List (List UInt8)) (x : List UInt8) (hL : ∀ r ∈ L, validB r.length = true) : scan (frames L ++ x) = (L ++ (scan x).1, (frames L).length + (scan x).2) := by
  induction L with
  | nil => simp [frames]
  | cons r L ih =>
    have h1 := hL r (List.mem_cons_self ..)
    have h2 := ih fun s hs => hL s (List.mem_cons_of_mem _ hs)
    have e : frames (r :: L) ++ x = frame r ++ (frames L ++ x) := by simp [frames]
    rw [e, scan_frame r _ h1, h2]
    have hl := frame_length r h1
    simp [frames, hl, Nat.add_assoc]

theorem frames_length_le (L : List (List UInt8)) (m : Nat) (hL : ∀ r ∈ L, r.length ≤ m) : (frames L).length ≤ L.length * (8 + m) := by
  induction L with
  | nil => simp [frames]
  | cons r L ih =>
    have h1 := hL r (List.mem_cons_self ..)
    have h2 := ih fun s hs => hL s (List.mem_cons_of_mem _ hs)
    have e : (frames (r :: L)).length = (frame r).length + (frames L).length := by simp [frames]
    have h3 : (frame r).length ≤ 8 + r.length := by
      cases h : validB r.length with
      | true => rw [frame_length r h]; omega
      | false => simp [frame, h]
    rw [e, List.length_cons, Nat.add_mul]
    omega
end Go.Proofs.Ytelbapljkefjcaa
