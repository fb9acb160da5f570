/-
  The program's device and the reference's, side by side; few.
-/
import Derived.Test.YtelbapljkefjcaaLFrames
import Derived.Test.YtelbapljkefjcaaSteps
namespace Go.Proofs.Ytelbapljkefjcaa
open Go.RowKit

/-- The two devices share no block. -/
structure Apart2 (g h : Nat) (dv rv : Value) : Prop where
  gh : g ≠ h
  gr : rv.ownBlock ≠ some g
  hd : dv.ownBlock ≠ some h
  dr : ∀ k, dv.ownBlock = some k → rv.ownBlock ≠ some k

theorem Dev.movedP {w w' : World} {base T T' g h : Nat} {dv rv dv' : Value} {D E : DS} (_hp : Dev w base T g dv D) (hr : Dev w base T' h rv E) (ha : Apart2 g h dv rv) (hm : Moved w w' g dv dv') : Dev w' base T' h rv E ∧ Apart2 g h dv' rv := by
  have hl := hr.lt
  refine ⟨hr.keep (hm.block _ hr.lt (fun e => ha.gh e.symm) (fun e => ha.hd e.symm)) fun k hk => hm.block k (hr.own.lt k hk).2 (fun e => ha.gr (by rw [hk, e])) (fun e => ha.dr k e.symm hk), ha.gh, ha.gr, fun e => ?_, fun k hk hk' => ?_⟩
  · rcases hm.own h e with h' | h'
    · exact ha.hd h'
    · omega
  · rcases hm.own k hk with h' | h'
    · exact ha.dr k h' hk'
    · have := (hr.own.lt k hk').2; omega
theorem Apart2.symm {g h : Nat} {dv rv : Value} (ha : Apart2 g h dv rv) : Apart2 h g rv dv := ⟨fun e => ha.gh e.symm, ha.hd, ha.gr, fun k hk hk' => ha.dr k hk' hk⟩

def AnyBool (w : World) (e : Ending) (w' : World) : Prop := w = w' ∧ ∃ r, e = .returned (.bool r)

set_option maxHeartbeats 800000 in
theorem few_any (a : Option Addr) (n c : Nat) (L : List St) (w : World) (hv : Steps w a n c L) :
    Calls Try.prog 23 #[.slice a n c] w (AnyBool w) := by
  have hl := hv.len
  have hc := hv.le
  have hm := hv.cap
  unfold maxLen at hm
  have HV := Lib.hid hv; clear hv
  have HL := Lib.hid hl; clear hl
  go_enter Try.func23, Try.ntmps23
  go_wp2_with fail
  go_loopw [3] (fun i wr => ∃ k : Nat, k ≤ n ∧ i = .int .i64 k ∧ w = wr) (fun i _ => n - (intOf i).toNat)
  case atStart => exact ⟨0, Nat.zero_le _, rfl, rfl⟩
  case round =>
    obtain ⟨k, hk, rfl, rfl⟩ := hrel
    by_cases hlt : k < n
    · obtain ⟨b, o, x, m, q, rfl, c0, c1, c2, hbs, hr0, hr1⟩ := HV.out.at_ k _ (List.getElem?_eq_getElem (by rw [HL.out]; exact hlt))
      have HBS := Lib.hid hbs; clear hbs
      have hmc := HBS.out.le_cap
      have hmm := HBS.out.cap_le
      unfold maxLen at hmm
      go_wp2_with fail
      · go_ret
        first | exact ⟨rfl, _, rfl⟩ | exact ⟨rfl, true, trivial⟩
      · go_roundw
        case rel => exact ⟨k + 1, by omega, by go_num, trivial⟩
        case measure => simp [intOf]; omega
    · go_wp2_with fail
      go_ret
      first | exact ⟨rfl, _, rfl⟩ | exact ⟨rfl, true, trivial⟩
end Go.Proofs.Ytelbapljkefjcaa
