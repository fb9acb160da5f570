/-
  Same of the reference: equality of two lists of records.
-/
import Derived.Test.YtelbapljkefjcaaRScan
namespace Go.Proofs.Ytelbapljkefjcaa
open Go.RowKit

/-- A list of records that can be read. -/
def Recs (w : World) (a : Option Addr) (n c : Nat) (L : List (List UInt8)) : Prop := ∃ vs, Sl w 1 a n c vs ∧ RL w vs L (fun _ => True)

theorem Recs.length {w : World} {a : Option Addr} {n c : Nat} {L : List (List UInt8)} (h : Recs w a n c L) : L.length = n := by
  obtain ⟨vs, h1, h2⟩ := h
  have := h1.len; have := h2.1; omega
theorem Recs.below {w w' : World} {a : Option Addr} {n c : Nat} {L : List (List UInt8)} (h : Recs w a n c L) (hb : Below w.heap.size w w') : Recs w' a n c L := by
  obtain ⟨vs, h1, h2⟩ := h
  exact ⟨vs, h1.below hb, h2.keep fun b _ hlt => hb.block b hlt⟩
theorem Recs.drewN {w : World} {a : Option Addr} {n c : Nat} {L : List (List UInt8)} (h : Recs w a n c L) (m : Nat) : Recs (w.drewN m) a n c L :=
  h.below ⟨rfl, rfl, rfl, Nat.le_refl _, fun _ _ => rfl⟩
theorem Recs.at {w : World} {a : Option Addr} {n c : Nat} {L : List (List UInt8)} (h : Recs w a n c L) {i : Nat} (hi : i < n) :
    ∃ b o a' n' c', a = some ⟨b, o, none⟩ ∧ w.cell? ⟨b, o + i, none⟩ = some (.slice a' n' c') ∧ Bs w a' n' c' (L.getD i []) := by
  have hl := h.length
  obtain ⟨vs, h1, h2⟩ := h
  obtain ⟨a', n', c', h3, h4, _⟩ := h2.2 i (L.getD i []) (by simp [List.getD, show i < L.length by omega])
  obtain ⟨b, o, h5, h6⟩ := h1.cell h3
  exact ⟨b, o, a', n', c', h5, h6, h4⟩
theorem OwnRecs.recs {w : World} {base : Nat} {v : Value} {L : List (List UInt8)} (h : OwnRecs w base v L) : ∃ a c, v = .slice a L.length c ∧ Recs w a L.length c L := by
  obtain ⟨vs, h1, h2⟩ := h
  obtain ⟨a, c, rfl, h3, _⟩ := ownsRow_sl h1
  exact ⟨a, c, rfl, vs, h3, h2.mono fun _ _ => trivial⟩

theorem take_succ_eq {L M : List (List UInt8)} {k : Nat} (h : L.take k = M.take k) (hL : k < L.length) (hM : k < M.length) (hk : L.getD k [] = M.getD k []) : L.take (k + 1) = M.take (k + 1) := by
  rw [List.take_succ_eq_append_getElem hL, List.take_succ_eq_append_getElem hM, h]
  simp [List.getD, hL, hM] at hk
  rw [hk]

set_option maxHeartbeats 800000 in
theorem Same_any (a a' : Option Addr) (n n' c c' : Nat) (L M : List (List UInt8)) (w : World) (h : Recs w a n c L) (h' : Recs w a' n' c' M) (hn : n ≤ 140737488355328) (hn' : n' ≤ 140737488355328) :
    Calls Try.prog 13 #[.slice a n c, .slice a' n' c'] w fun e w' => e = .returned (.bool (decide (L = M))) ∧ ∃ k, w' = w.drewN k := by
  have hl := h.length
  have hl' := h'.length
  by_cases hnn : n = n'
  · subst hnn
    have H := Lib.hid h; clear h
    have H' := Lib.hid h'; clear h'
    have HL := Lib.hid hl; clear hl
    have HL' := Lib.hid hl'; clear hl'
    go_enter Try.func13, Try.ntmps13
    go_wp2
    go_loopw [13] (fun i wr => ∃ k z : Nat, k ≤ n ∧ i = .int .i64 k ∧ wr = w.drewN z ∧ Hid (L.take k = M.take k)) (fun i _ => n - (intOf i).toNat)
    case atStart => exact ⟨0, 0, Nat.zero_le _, rfl, rfl, show _ = _ by simp⟩
    case round =>
      obtain ⟨k, z, hk, rfl, rfl, HK⟩ := hrel
      by_cases hlt : k < n
      · obtain ⟨b, o, a1, n1, c1, rfl, hcell, hbs⟩ := H.out.at hlt
        obtain ⟨b', o', a2, n2, c2, rfl, hcell', hbs'⟩ := H'.out.at hlt
        have hcv : ∀ u, (convert 23 9 (.slice a1 n1 c1)).run Try.prog (w.drewN u) = .ok (.string ⟨(L.getD k []).toArray⟩) (w.drewN u) := fun u => run_conv_bs (w.drewN u) 23 9 5 Try.underlying23 Try.underlying5 Try.underlying9 a1 n1 c1 _ (Sl.drewN hbs u)
        have hcv' : ∀ u, (convert 23 9 (.slice a2 n2 c2)).run Try.prog (w.drewN u) = .ok (.string ⟨(M.getD k []).toArray⟩) (w.drewN u) := fun u => run_conv_bs (w.drewN u) 23 9 5 Try.underlying23 Try.underlying5 Try.underlying9 a2 n2 c2 _ (Sl.drewN hbs' u)
        clear hbs hbs'
        generalize hx : L.getD k [] = x at *
        generalize hy : M.getD k [] = y at *
        have HX := Lib.hid hx; clear hx
        have HY := Lib.hid hy; clear hy
        by_cases hxy : x = y
        · have hb : (x == y) = true := by simpa using hxy
          have HXY := Lib.hid hxy; clear hxy
          go_wp2_with fail
          go_quiet (fail)
          go_wp2_with fail
          go_roundw
          case rel => exact ⟨k + 1, z + nq, by omega, by go_num, rfl, take_succ_eq HK.out (by rw [HL.out]; exact hlt) (by rw [HL'.out]; exact hlt) (by rw [HX.out, HY.out, HXY.out])⟩
          case measure => simp [intOf]; omega
        · have hb : (x == y) = false := by simpa using hxy
          have HXY := Lib.hid hxy; clear hxy
          go_wp2_with fail
          go_quiet (fail)
          go_wp2_with fail
          go_ret
          refine ⟨?_, z + nq, by simp⟩
          have : L ≠ M := fun e => HXY.out (by rw [← HX.out, ← HY.out, e])
          simp [this]
      · have he : L = M := by
          have h1 := HK.out
          rw [List.take_of_length_le (by rw [HL.out]; omega), List.take_of_length_le (by rw [HL'.out]; omega)] at h1
          exact h1
        have HE := Lib.hid he; clear he
        go_wp2_with fail
        go_ret
        exact ⟨by have := HE.out; simp [this], z, rfl⟩
  · have hne : L ≠ M := fun e => hnn (by rw [← hl, ← hl', e])
    have HNE := Lib.hid hne; clear hne
    go_enter Try.func13, Try.ntmps13
    go_wp2
    go_ret
    exact ⟨by have := HNE.out; simp [this], 0, rfl⟩
end Go.Proofs.Ytelbapljkefjcaa
