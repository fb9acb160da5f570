/-
  A frame of which one byte was changed. No program here.
-/
import Derived.Test.YtelbapljkefjcaaPlain4
namespace Go.Proofs.Ytelbapljkefjcaa

def total (l : List UInt8) : Nat := (l.map (·.toNat)).sum

theorem adlerP_foldl (l : List UInt8) (p : Nat × Nat) : (l.foldl adlerStep p).1 % 65521 = (p.1 + total l) % 65521 := by
  induction l generalizing p with
  | nil => simp [total]
  | cons x l ih =>
    simp only [List.foldl_cons]
    rw [ih]
    simp only [adlerStep, total, List.map_cons, List.sum_cons]
    omega
theorem adler_mod (l : List UInt8) : adler l % 65536 = (1 + total l) % 65521 := by
  have h := adlerP_foldl l (1, 0)
  have hl := adlerP_lt l
  simp only [adler]
  unfold adlerP at *
  omega
theorem adler_total {l m : List UInt8} (h : adler l = adler m) : (1 + total l) % 65521 = (1 + total m) % 65521 := by
  rw [← adler_mod, ← adler_mod, h]

theorem total_append (l m : List UInt8) : total (l ++ m) = total l + total m := by simp [total]
theorem total_le (l : List UInt8) : total l ≤ l.length * 255 := by
  induction l with
  | nil => simp [total]
  | cons x l ih =>
    have hx := x.toNat_lt
    simp only [total, List.map_cons, List.sum_cons, List.length_cons] at *
    omega
theorem total_set (l : List UInt8) (i : Nat) (x : UInt8) (h : i < l.length) : total (l.set i x) + l[i].toNat = total l + x.toNat := by
  induction l generalizing i with
  | nil => simp at h
  | cons y l ih =>
    cases i with
    | zero => simp [total]; omega
    | succ i =>
      have := ih i (by simpa using h)
      simp only [total, List.set_cons_succ, List.map_cons, List.sum_cons, List.getElem_cons_succ] at *
      omega
theorem total_zero {l : List UInt8} (h : total l = 0) : ∀ x ∈ l, x = 0 := by
  induction l with
  | nil => simp
  | cons y l ih =>
    simp only [total, List.map_cons, List.sum_cons] at h ih
    intro x hx
    rcases List.mem_cons.1 hx with rfl | hx
    · have h0 : x.toNat = 0 := by omega
      exact UInt8.toNat_inj.1 (by simpa using h0)
    · exact ih (by omega) x hx

theorem scan_zeros {l : List UInt8} (h : ∀ x ∈ l, x = 0) : scan l = ([], 0) := by
  apply scan_no
  have g : ∀ i, l.getD i 0 = 0 := fun i => by
    simp only [List.getD]
    cases hi : l[i]? with
    | none => rfl
    | some x => exact h x (List.mem_of_getElem? hi)
  have h4 : be4 l = 0 := by simp only [be4, g]; rfl
  simp [headB, h4]

/-- What the law asks of a changed frame. -/
def Changed (f : List UInt8) (i : Nat) : Prop := scan f = ([], 0) ∨ ((scan f).1.length = 1 ∧ (scan f).2 < f.length ∧ i < 8)

theorem set_frame (r : List UInt8) (h : validB r.length = true) : frame r = be r.length ++ (be (adler r) ++ r) := frame_eq r h

theorem be4_set (l : List UInt8) (r : List UInt8) (hl : l.length = 4) : be4 (l ++ r) = be4 l := by
  match l, hl with
  | [a, b, c, d], _ => simp [be4]

theorem be4_ne {l : List UInt8} (i : Nat) (x : UInt8) (hl : l.length = 4) (hi : i < 4) (hx : l.getD i 0 ≠ x) : be4 (l.set i x) ≠ be4 l := by
  match l, hl with
  | [a, b, c, d], _ =>
    have ha := a.toNat_lt; have hb := b.toNat_lt; have hc := c.toNat_lt; have hd := d.toNat_lt; have hxx := x.toNat_lt
    have hne : ∀ y : UInt8, y ≠ x → y.toNat ≠ x.toNat := fun y hy e => hy (UInt8.toNat_inj.1 e)
    match i, hi with
    | 0, _ => have := hne a (by simpa using hx); simp [be4]; omega
    | 1, _ => have := hne b (by simpa using hx); simp [be4]; omega
    | 2, _ => have := hne c (by simpa using hx); simp [be4]; omega
    | 3, _ => have := hne d (by simpa using hx); simp [be4]; omega

/-- One byte of a small length changed: what becomes of the length. -/
theorem be_set_small {n : Nat} (i : Nat) (x : UInt8) (hn : n ≤ 300) (hi : i < 4) (hle : be4 ((be n).set i x) < n) : n - be4 ((be n).set i x) ≤ 256 := by
  have hx := x.toNat_lt
  have key : ∀ a b c d : UInt8, be4 [a, b, c, d] = ((a.toNat * 256 + b.toNat) * 256 + c.toNat) * 256 + d.toNat := fun _ _ _ _ => rfl
  have t1 : (UInt8.ofNat (n / 16777216)).toNat = 0 := by rw [UInt8.toNat_ofNat']; omega
  have t2 : (UInt8.ofNat (n / 65536)).toNat = 0 := by rw [UInt8.toNat_ofNat']; omega
  have t3 : (UInt8.ofNat (n / 256)).toNat = n / 256 := by rw [UInt8.toNat_ofNat']; omega
  have t4 : (UInt8.ofNat n).toNat = n % 256 := UInt8.toNat_ofNat'
  have hi' : i = 0 ∨ i = 1 ∨ i = 2 ∨ i = 3 := by omega
  rcases hi' with rfl | rfl | rfl | rfl
  · simp only [be, List.set_cons_zero, key, t2, t3, t4] at hle ⊢; omega
  · simp only [be, List.set_cons_zero, List.set_cons_succ, key, t1, t3, t4] at hle ⊢; omega
  · simp only [be, List.set_cons_zero, List.set_cons_succ, key, t1, t2, t4] at hle ⊢; omega
  · simp only [be, List.set_cons_zero, List.set_cons_succ, key, t1, t2, t3] at hle ⊢; omega

theorem changed (r : List UInt8) (i : Nat) (x : UInt8) (h1 : 1 ≤ r.length) (h300 : r.length ≤ 300) (hi : i < (frame r).length) (hx : (frame r).getD i 0 ≠ x) : Changed ((frame r).set i x) i := by
  have hv : validB r.length = true := by simp [validB]; omega
  have hfr := frame_eq r hv
  have hfl := frame_length r hv
  by_cases i4 : i < 4
  · -- the length
    have e : (frame r).set i x = (be r.length).set i x ++ (be (adler r) ++ r) := by
      rw [hfr, List.set_append_left _ _ (by rw [be_length]; exact i4)]
    have hx' : (be r.length).getD i 0 ≠ x := by
      rw [hfr] at hx
      simp only [List.getD] at hx ⊢
      rw [List.getElem?_append_left (by rw [be_length]; exact i4)] at hx
      exact hx
    have hne := be4_ne i x (be_length r.length) i4 hx'
    have hbl : be4 (be r.length) = r.length := by have := be4_be r.length (by omega) []; rwa [List.append_nil] at this
    rw [hbl] at hne
    have hl4 : ((be r.length).set i x).length = 4 := by simp [be_length]
    have hm : be4 ((frame r).set i x) = be4 ((be r.length).set i x) := by rw [e]; exact be4_set _ _ hl4
    have hd4 : ((frame r).set i x).drop 4 = be (adler r) ++ r := by rw [e]; exact List.drop_left' hl4
    have hd8 : ((frame r).set i x).drop 8 = r := by
      rw [show 8 = 4 + 4 from rfl, ← List.drop_drop, hd4]; exact List.drop_left' (be_length _)
    have hck : be4 (((frame r).set i x).drop 4) = adler r := by rw [hd4]; exact be4_be _ (adler_lt r) _
    have hlen : ((frame r).set i x).length = 8 + r.length := by rw [List.length_set, hfl]
    by_cases hh : headB ((frame r).set i x) = true
    · right
      obtain ⟨_, g1, _, g3, g4⟩ := headB_spec hh
      have hs := scan_yes hh
      rw [hm] at g1 g3 g4 hs
      rw [hd8, hck] at g4
      rw [hlen] at g3
      generalize hmm : be4 ((be r.length).set i x) = m at *
      have hmr : m < r.length := by omega
      have hk : r.length - m ≤ 256 := by have := be_set_small (n := r.length) i x h300 i4 (by rw [hmm]; exact hmr); rw [hmm] at this; exact this
      have ht := adler_total g4
      have hsplit : total r = total (r.take m) + total (r.drop m) := by rw [← total_append, List.take_append_drop]
      have hle := total_le (r.drop m)
      rw [List.length_drop] at hle
      have hz : total (r.drop m) = 0 := by
        have : (r.length - m) * 255 ≤ 256 * 255 := Nat.mul_le_mul_right _ hk
        omega
      have hsz : scan (((frame r).set i x).drop (8 + m)) = ([], 0) := by
        rw [← List.drop_drop, hd8]; exact scan_zeros (total_zero hz)
      rw [hs, hsz, hlen]
      exact ⟨by simp, by simp; omega, by omega⟩
    · left; exact scan_no (by simpa using hh)
  · left
    have e : (frame r).set i x = be r.length ++ (be (adler r) ++ r).set (i - 4) x := by
      rw [hfr, List.set_append_right _ _ (by rw [be_length]; omega), be_length]
    have hm : be4 ((frame r).set i x) = r.length := by
      rw [e]; exact be4_be _ (by omega) _
    have hd4 : ((frame r).set i x).drop 4 = (be (adler r) ++ r).set (i - 4) x := by rw [e]; exact List.drop_left' (be_length _)
    by_cases i8 : i < 8
    · -- the checksum
      have e2 : (be (adler r) ++ r).set (i - 4) x = (be (adler r)).set (i - 4) x ++ r := by
        rw [List.set_append_left _ _ (by rw [be_length]; omega)]
      have hx' : (be (adler r)).getD (i - 4) 0 ≠ x := by
        rw [hfr] at hx
        simp only [List.getD] at hx ⊢
        rw [List.getElem?_append_right (by rw [be_length]; omega), be_length, List.getElem?_append_left (by rw [be_length]; omega)] at hx
        exact hx
      have hne := be4_ne (i - 4) x (be_length (adler r)) (by omega) hx'
      have hbl : be4 (be (adler r)) = adler r := by have := be4_be (adler r) (adler_lt r) []; rwa [List.append_nil] at this
      rw [hbl] at hne
      have hl4 : ((be (adler r)).set (i - 4) x).length = 4 := by simp [be_length]
      have hck : be4 (((frame r).set i x).drop 4) = be4 ((be (adler r)).set (i - 4) x) := by rw [hd4, e2]; exact be4_set _ _ hl4
      have hd8 : ((frame r).set i x).drop 8 = r := by
        rw [show 8 = 4 + 4 from rfl, ← List.drop_drop, hd4, e2]; exact List.drop_left' hl4
      apply scan_no
      cases hh : headB ((frame r).set i x) with
      | false => rfl
      | true =>
        obtain ⟨_, _, _, _, g4⟩ := headB_spec hh
        rw [hm, hd8, List.take_length, hck] at g4
        exact absurd g4.symm hne
    · -- the record
      have e2 : (be (adler r) ++ r).set (i - 4) x = be (adler r) ++ r.set (i - 8) x := by
        rw [List.set_append_right _ _ (by rw [be_length]; omega), be_length]
        congr 2
      have hir : i - 8 < r.length := by omega
      have hx' : r[i - 8] ≠ x := by
        rw [hfr] at hx
        simp only [List.getD] at hx
        rw [List.getElem?_append_right (by rw [be_length]; omega), be_length, List.getElem?_append_right (by rw [be_length]; omega), be_length] at hx
        rw [show i - 4 - 4 = i - 8 by omega] at hx
        simpa [hir] using hx
      have hck : be4 (((frame r).set i x).drop 4) = adler r := by rw [hd4, e2]; exact be4_be _ (adler_lt r) _
      have hd8 : ((frame r).set i x).drop 8 = r.set (i - 8) x := by
        rw [show 8 = 4 + 4 from rfl, ← List.drop_drop, hd4, e2]; exact List.drop_left' (be_length _)
      apply scan_no
      cases hh : headB ((frame r).set i x) with
      | false => rfl
      | true =>
        obtain ⟨_, _, _, _, g4⟩ := headB_spec hh
        rw [hm, hd8, List.take_of_length_le (by rw [List.length_set]; exact Nat.le_refl _), hck] at g4
        have ht := adler_total g4
        have hts := total_set r (i - 8) x hir
        have hl1 := total_le r
        have hne : r[i - 8].toNat ≠ x.toNat := fun e => hx' (UInt8.toNat_inj.1 e)
        have hb1 := (r[i - 8]).toNat_lt
        have hb2 := x.toNat_lt
        omega
end Go.Proofs.Ytelbapljkefjcaa
