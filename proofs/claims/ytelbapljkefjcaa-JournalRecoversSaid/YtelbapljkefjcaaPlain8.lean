/-
  An armed device: what an append does, and what a crash leaves. No program here.
-/
import Derived.Test.YtelbapljkefjcaaPlain7
namespace Go.Proofs.Ytelbapljkefjcaa

/-- A device that has only seen whole appends, armed with k. -/
def live (sz : Nat) (R : List (List UInt8)) (k : Nat) : DS := { size := sz, data := frames R, safe := (frames R).length, off := false, armed := k }

theorem fail_calm (sz : Nat) (R : List (List UInt8)) (n : Int) : (calm sz R).fail n = live sz R n.toNat := rfl

/-- After any crash the device holds the records Z alone, possibly followed by what Open cuts away. -/
def Left (sz : Nat) (D : DS) (Z : List (List UInt8)) : Prop := D.open = (calm sz Z, Z, 0)

theorem live_crash (sz : Nat) {R : List (List UInt8)} (k : Nat) (keep : Int) (h : ∀ r ∈ R, validB r.length = true) : Left sz ((live sz R k).crash keep) R := by
  have he : (live sz R k).crash keep = calm sz R := by
    simp [DS.crash, DS.keepN, live, calm]
  show DS.open _ = _
  rw [he]
  exact calm_open sz h

/-- The device has gone off in the middle of an append. -/
theorem torn_crash (sz : Nat) {R : List (List UInt8)} (r : List UInt8) (keep : Int) (h : ∀ r ∈ R, validB r.length = true) (hv : validB r.length = true) (ar : Nat) :
    Left sz (({ size := sz, data := frames R ++ frame r, safe := (frames R).length, off := true, armed := ar } : DS).crash keep) R ∨
    Left sz (({ size := sz, data := frames R ++ frame r, safe := (frames R).length, off := true, armed := ar } : DS).crash keep) (R ++ [r]) := by
  have hn : ∃ q, q = min keep.toNat (frame r).length := ⟨_, rfl⟩
  obtain ⟨q, hq⟩ := hn
  have hql : q ≤ (frame r).length := by omega
  have he : ({ size := sz, data := frames R ++ frame r, safe := (frames R).length, off := true, armed := ar } : DS).crash keep = { size := sz, data := frames R ++ (frame r).take q, safe := (frames R).length + q, off := false, armed := 0 } := by
    simp only [DS.crash, DS.keepN, List.length_append, Nat.add_sub_cancel_left, ← hq]
    rw [List.take_append, List.take_of_length_le (by omega), Nat.add_sub_cancel_left]
  rw [he]
  unfold Left
  rcases Nat.lt_or_ge q (frame r).length with hlt | hge
  · left
    have hs : scan (frames R ++ (frame r).take q) = (R, (frames R).length) := by rw [scan_frames R _ h, scan_prefix r q hlt]; simp
    rcases Nat.eq_zero_or_pos q with h0 | hp
    · subst h0
      simp [DS.open, scan_frames' h, calm]
    · have hlen : ((frame r).take q).length = q := by rw [List.length_take]; omega
      have hc1 : ¬ (((frames R).length : Int) < 0 ∨ (((frames R).length + q : Nat) : Int) < ((frames R).length : Int)) := by omega
      simp only [DS.open, hs, List.length_append, hlen, Bool.false_eq_true, if_false]
      rw [if_pos (by omega)]
      have ht : ({ size := sz, data := frames R ++ (frame r).take q, safe := (frames R).length + q, off := false, armed := 0 } : DS).trunc ((frames R).length : Int) = (calm sz R, 0) := by
        simp only [DS.trunc, List.length_append, hlen, Bool.false_eq_true, if_false]
        rw [if_neg hc1]
        simp [DS.operate, calm]
      rw [ht]
      simp
  · right
    have hqe : q = (frame r).length := by omega
    have hv' : ∀ s ∈ R ++ [r], validB s.length = true := fun s hs => by
      rcases List.mem_append.1 hs with h' | h'
      · exact h s h'
      · have : s = r := by simpa using h'
        rw [this]; exact hv
    have hd : frames R ++ (frame r).take q = frames (R ++ [r]) := by rw [frames_snoc, List.take_of_length_le (by omega)]
    have hl : (frames R).length + q = (frames (R ++ [r])).length := by rw [frames_snoc, List.length_append, hqe]
    rw [hd, hl]
    exact calm_open sz hv'

/-- What an append to an armed device comes to. -/
inductive Ran (sz : Nat) (R : List (List UInt8)) (r : List UInt8) (m k : Nat) : Prop
  | went (k' : Nat) (h : JS.append ⟨live sz R k, m, false⟩ r = (⟨live sz (R ++ [r]) k', m + 1, false⟩, 0))
  | fell (D : DS) (h : JS.append ⟨live sz R k, m, false⟩ r = (⟨D, m, true⟩, 13)) (hl : ∀ keep, Left sz (D.crash keep) R ∨ Left sz (D.crash keep) (R ++ [r]))

theorem ran (sz : Nat) (R : List (List UInt8)) (r : List UInt8) (m k : Nat) (h : ∀ r ∈ R, validB r.length = true) (hv : validB r.length = true) (hs : (frames R).length + 8 + r.length ≤ sz) : Ran sz R r m k := by
  have hl := frame_length r hv
  have h1 : ¬ (sz - (frames R).length < (frame r).length) := by omega
  have hf := frames_snoc R r
  by_cases k0 : k = 0
  · subst k0; exact .went 0 (calm_append sz m R r hv hs)
  by_cases k1 : k = 1
  · subst k1
    have hw : (live sz R 1).write (frame r) = ({ live sz R 0 with off := true }, 13) := by simp [DS.write, live, DS.operate, h1]
    have hp : JS.put ⟨live sz R 1, m, false⟩ r = ({ live sz R 0 with off := true }, 13) := by
      have h0 : (live sz R 1).off = false := rfl
      have : JS.put ⟨live sz R 1, m, false⟩ r = (live sz R 1).write (frame r) := by simp [JS.put, hv, hw, h0]
      rw [this, hw]
    refine .fell { live sz R 0 with off := true } (by simp [JS.append, JS.cnt, JS.fin, hp]) fun keep => .inl ?_
    have := live_crash sz 0 keep h
    exact this
  have hw : (live sz R k).write (frame r) = ({ live sz R (k - 1) with data := frames R ++ frame r }, 0) := by simp [DS.write, live, DS.operate, h1, k0, k1]
  have h0 : (live sz R k).off = false := rfl
  have he : JS.put ⟨live sz R k, m, false⟩ r = ({ live sz R (k - 1) with data := frames R ++ frame r } : DS).sync := by simp [JS.put, hv, hw, h0]
  by_cases k2 : k = 2
  · subst k2
    have hsy : ({ live sz R 1 with data := frames R ++ frame r } : DS).sync = ({ size := sz, data := frames R ++ frame r, safe := (frames R).length, off := true, armed := 0 }, 13) := by simp [DS.sync, live, DS.operate]
    have hp : JS.put ⟨live sz R 2, m, false⟩ r = ({ size := sz, data := frames R ++ frame r, safe := (frames R).length, off := true, armed := 0 }, 13) := by rw [he]; exact hsy
    exact .fell _ (by simp only [JS.append, JS.cnt, JS.fin, hp]; simp) fun keep => torn_crash sz r keep h hv 0
  · have hk1 : k - 1 ≠ 0 := by omega
    have hk2 : k - 1 ≠ 1 := by omega
    have hsy : ({ live sz R (k - 1) with data := frames R ++ frame r } : DS).sync = (live sz (R ++ [r]) (k - 1 - 1), 0) := by simp [DS.sync, live, DS.operate, hf, hk1, hk2]
    have hp : JS.put ⟨live sz R k, m, false⟩ r = (live sz (R ++ [r]) (k - 1 - 1), 0) := by rw [he]; exact hsy
    exact .went (k - 1 - 1) (by simp only [JS.append, JS.cnt, JS.fin, hp]; simp)
end Go.Proofs.Ytelbapljkefjcaa
