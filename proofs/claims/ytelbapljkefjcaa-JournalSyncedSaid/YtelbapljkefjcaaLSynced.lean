/-
  The walk of JournalSynced.
-/
import Derived.Test.YtelbapljkefjcaaLSyncedA
import Derived.Test.YtelbapljkefjcaaLSyncedB
namespace Go.Proofs.Ytelbapljkefjcaa
open Go.RowKit

set_option maxRecDepth 100000 in
theorem synced_any (a : Option Addr) (n c : Nat) (l : List UInt8) (a' : Option Addr) (n' c' : Nat) (m : List UInt8) (keep : Int) (w : World) (hv : Bs w a n c l) (hv' : Bs w a' n' c' m) (_hk : -9223372036854775808 ≤ keep ∧ keep ≤ 9223372036854775807) :
    Calls Try.prog 6 #[.slice a n c, .slice a' n' c', .int .i64 keep] w (Holds w) := by
  have hl := hv.length
  have hl' := hv'.length
  have HV := Lib.hid hv; clear hv
  have HV' := Lib.hid hv'; clear hv'
  have HL := Lib.hid hl; clear hl
  have HL' := Lib.hid hl'; clear hl'
  have hc := HV.out.le_cap
  have hcm := HV.out.cap_le
  have hc' := HV'.out.le_cap
  have hcm' := HV'.out.cap_le
  unfold maxLen at hcm hcm'
  by_cases h1 : 300 < n
  · go_enter Try.func6, Try.ntmps6
    go_wp2_with fail
    refine (awake_any w).mono ?_
    rintro e w1 ⟨rfl, hb1⟩
    go_wp2_with fail
    refine (awake_any w1).mono ?_
    rintro e w2 ⟨rfl, hb2⟩
    go_wp2_with fail
    go_ret
    exact ⟨rfl, hb1.trans (hb2.mono hb1.size)⟩
  by_cases h2 : 300 < n'
  · go_enter Try.func6, Try.ntmps6
    go_wp2_with fail
    refine (awake_any w).mono ?_
    rintro e w1 ⟨rfl, hb1⟩
    go_wp2_with fail
    refine (awake_any w1).mono ?_
    rintro e w2 ⟨rfl, hb2⟩
    go_wp2_with fail
    go_ret
    exact ⟨rfl, hb1.trans (hb2.mono hb1.size)⟩
  rcases Nat.lt_or_ge n' keep.toNat with hd | hd
  · exact synced_A a n c l a' n' c' m keep w HV.out HV'.out h1 h2 _ (Lib.hid rfl) hd _hk
  · exact synced_B a n c l a' n' c' m keep w HV.out HV'.out h1 h2 _ (Lib.hid rfl) hd _hk
end Go.Proofs.Ytelbapljkefjcaa
