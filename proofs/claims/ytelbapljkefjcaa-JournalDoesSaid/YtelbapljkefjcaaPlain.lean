/-
  The plain words of the chapter: checksum, frame, scan, a device's state. No program here.
-/
namespace Go.Proofs.Ytelbapljkefjcaa

def adlerStep (p : Nat × Nat) (x : UInt8) : Nat × Nat := ((p.1 + x.toNat) % 65521, (p.2 + (p.1 + x.toNat) % 65521) % 65521)
def adlerP (l : List UInt8) : Nat × Nat := l.foldl adlerStep (1, 0)
def adler (l : List UInt8) : Nat := (adlerP l).2 * 65536 + (adlerP l).1

theorem adlerP_take (l : List UInt8) (k : Nat) (h : k < l.length) : adlerP (l.take (k + 1)) = adlerStep (adlerP (l.take k)) (l.getD k 0) := by
  unfold adlerP
  rw [List.take_succ_eq_append_getElem h, List.foldl_append]
  simp [h]
theorem adlerP_lt (l : List UInt8) : (adlerP l).1 < 65521 ∧ (adlerP l).2 < 65521 := by
  unfold adlerP
  have : ∀ p : Nat × Nat, p.1 < 65521 → p.2 < 65521 → (l.foldl adlerStep p).1 < 65521 ∧ (l.foldl adlerStep p).2 < 65521 := by
    induction l with
    | nil => intro p h1 h2; exact ⟨h1, h2⟩
    | cons x l ih =>
      intro p h1 h2
      simp only [List.foldl_cons]
      apply ih <;> simp only [adlerStep] <;> omega
  exact this _ (by omega) (by omega)
theorem adler_lt (l : List UInt8) : adler l < 4294967296 := by
  have := adlerP_lt l
  unfold adler; omega

/-- The number of four bytes, the most significant first. -/
def be4 (l : List UInt8) : Nat := (((l.getD 0 0).toNat * 256 + (l.getD 1 0).toNat) * 256 + (l.getD 2 0).toNat) * 256 + (l.getD 3 0).toNat
/-- A number as four bytes. -/
def be (n : Nat) : List UInt8 := [UInt8.ofNat (n / 16777216), UInt8.ofNat (n / 65536), UInt8.ofNat (n / 256), UInt8.ofNat n]

theorem be_length (n : Nat) : (be n).length = 4 := rfl
theorem be4_be (n : Nat) (h : n < 4294967296) (r : List UInt8) : be4 (be n ++ r) = n := by
  simp [be4, be]; omega
theorem be4_lt (l : List UInt8) : be4 l < 4294967296 := by
  have h0 := (l.getD 0 0).toNat_lt
  have h1 := (l.getD 1 0).toNat_lt
  have h2 := (l.getD 2 0).toNat_lt
  have h3 := (l.getD 3 0).toNat_lt
  unfold be4; omega

def validB (n : Nat) : Bool := decide (1 ≤ n) && decide (n ≤ 8192)
/-- The frame of a record; nothing for what is no record. -/
def frame (l : List UInt8) : List UInt8 := if validB l.length then be l.length ++ (be (adler l) ++ l) else []

theorem frame_length (l : List UInt8) (h : validB l.length = true) : (frame l).length = 8 + l.length := by
  simp [frame, h, be_length]; omega

/-- What one round of the scan finds at the head of b: the length of a record, or nothing. -/
def headB (b : List UInt8) : Bool :=
  decide (8 ≤ b.length) && decide (1 ≤ be4 b) && decide (be4 b ≤ 8192) && decide (be4 b ≤ b.length - 8) && (adler ((b.drop 8).take (be4 b)) == be4 (b.drop 4))

theorem headB_spec {b : List UInt8} (h : headB b = true) : 8 ≤ b.length ∧ 1 ≤ be4 b ∧ be4 b ≤ 8192 ∧ be4 b ≤ b.length - 8 ∧ adler ((b.drop 8).take (be4 b)) = be4 (b.drop 4) := by
  simpa [headB, and_assoc] using h

/-- The records of the valid part, and its length. -/
def scan (b : List UInt8) : List (List UInt8) × Nat :=
  if h : headB b = true then
    ((b.drop 8).take (be4 b) :: (scan (b.drop (8 + be4 b))).1, 8 + be4 b + (scan (b.drop (8 + be4 b))).2)
  else ([], 0)
termination_by b.length
decreasing_by all_goals (have := headB_spec h; simp only [List.length_drop]; omega)

theorem scan_no {b : List UInt8} (h : headB b = false) : scan b = ([], 0) := by
  rw [scan]; simp [h]
theorem scan_yes {b : List UInt8} (h : headB b = true) : scan b = ((b.drop 8).take (be4 b) :: (scan (b.drop (8 + be4 b))).1, 8 + be4 b + (scan (b.drop (8 + be4 b))).2) := by
  rw [scan]; simp [h]

theorem scan_le (b : List UInt8) : (scan b).2 ≤ b.length := by
  generalize hn : b.length = n
  induction n using Nat.strongRecOn generalizing b with
  | _ n ih =>
    by_cases h : headB b = true
    · rw [scan_yes h]
      have h' := headB_spec h
      have := ih (b.drop (8 + be4 b)).length (by simp only [List.length_drop]; omega) _ rfl
      simp only [List.length_drop] at this
      simp only
      omega
    · rw [scan_no (by simpa using h)]
      simp
end Go.Proofs.Ytelbapljkefjcaa
