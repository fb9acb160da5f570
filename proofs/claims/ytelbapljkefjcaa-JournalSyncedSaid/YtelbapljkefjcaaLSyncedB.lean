/-
  The walk of JournalSynced: part of what was written kept.
-/
import Derived.Test.YtelbapljkefjcaaLFrames
import Derived.Test.YtelbapljkefjcaaPlain6
import Derived.Test.YtelbapljkefjcaaApart
namespace Go.Proofs.Ytelbapljkefjcaa
open Go.RowKit

set_option maxRecDepth 100000 in
set_option maxHeartbeats 3200000 in
theorem synced_B (a : Option Addr) (n c : Nat) (l : List UInt8) (a' : Option Addr) (n' c' : Nat) (m : List UInt8) (keep : Int) (w : World) (hv : Bs w a n c l) (hv' : Bs w a' n' c' m) (h1 : ¬ 300 < n) (h2 : ¬ 300 < n') (q1 : Nat) (hq1 : Hid (q1 = keep.toNat)) (hd : q1 ≤ n') (_hk : -9223372036854775808 ≤ keep ∧ keep ≤ 9223372036854775807) :
    Calls Try.prog 6 #[.slice a n c, .slice a' n' c', .int .i64 keep] w (Holds w) := by
  have hl := hv.length
  have hl' := hv'.length
  have HV := Lib.hid hv; clear hv
  have HV' := Lib.hid hv'; clear hv'
  have HL := Lib.hid hl; clear hl
  have HL' := Lib.hid hl'; clear hl'
  have hc := HV.out.le_cap
  have hcm := HV.out.cap_le
  have hc' := HV'.out.le_cap
  have hcm' := HV'.out.cap_le
  unfold maxLen at hcm hcm'
  obtain ⟨q, hq⟩ : ∃ q : Nat, Hid (q = min q1 n') := ⟨_, rfl⟩
  have t1 : (if keep < 0 then (0 : Int) else keep) = (q1 : Int) := by have := hq1.out; split <;> omega
  have hqn : q ≤ n' := by have := hq.out; omega
  have hqe : q1 = q := by have := hq.out; omega
  subst hqe
  go_enter Try.func6, Try.ntmps6
  go_wp2_with fail
  refine (awake_any w).mono ?_
  rintro e w1 ⟨rfl, hb1⟩
  have hz1 := hb1.size
  have HB1 := Lib.hid hb1; clear hb1
  go_wp2_with fail
  refine (NewDevice_any 1000 w1 w.heap.size hz1).mono ?_
  rintro e w2 ⟨rfl, h2, hb2, hz2⟩
  have HB2 : Hid (Below w.heap.size w w2) := HB1.out.trans (hb2.mono hz1)
  have hz2' : w.heap.size ≤ w2.heap.size := by omega
  clear hb2 hz2
  have H2 := Lib.hid h2; clear h2
  go_wp2_with fail
  refine (Write_any _ _ _ _ _ H2.out a n c l (HV.out.below HB2.out) (apart HV.out (by omega) H2.out)).mono ?_
  rintro e w3 ⟨rfl, dv3, h3, hm3⟩
  rw [write_new 1000 l (by rw [HL.out]; omega)] at h3 ⊢
  have HB3 : Hid (Below w.heap.size w w3) := HB2.out.trans (hm3.below (by omega) (fun k hk => by cases hk) (by omega))
  have H3 := Lib.hid h3; clear h3 hm3
  go_wp2_with fail
  refine (Sync_any _ _ _ _ _ H3.out).mono ?_
  rintro e w4 ⟨rfl, dv4, h4, hm4⟩
  rw [sync_step l] at h4 ⊢
  have HB4 : Hid (Below w.heap.size w w4) := HB3.out.trans (hm4.below (by omega) (fun k hk => (H3.out.own.lt k hk).1) HB3.out.size)
  have H4 := Lib.hid h4; clear h4 hm4
  go_wp2_with fail
  refine (Write_any _ _ _ _ _ H4.out a' n' c' m (HV'.out.below HB4.out) (apart HV'.out (by omega) H4.out)).mono ?_
  rintro e w5 ⟨rfl, dv5, h5, hm5⟩
  rw [write_step l m (by rw [HL.out]; omega) (by rw [HL'.out]; omega)] at h5 ⊢
  have HB5 : Hid (Below w.heap.size w w5) := HB4.out.trans (hm5.below (by omega) (fun k hk => (H4.out.own.lt k hk).1) HB4.out.size)
  have H5 := Lib.hid h5; clear h5 hm5
  go_wp2_with fail
  refine (Crash_any _ _ _ _ _ H5.out keep).mono ?_
  rintro e w6 ⟨rfl, dv6, h6, hm6⟩
  rw [crash_step l m keep] at h6
  have HB6 : Hid (Below w.heap.size w w6) := HB5.out.trans (hm6.below (by omega) (fun k hk => (H5.out.own.lt k hk).1) HB5.out.size)
  have H6 := Lib.hid h6; clear h6 hm6
  go_wp2_with fail
  refine (Crash_any _ _ _ _ _ H6.out 0).mono ?_
  rintro e w7 ⟨rfl, dv7, h7, hm7⟩
  rw [crash_again _ (by simp) rfl rfl] at h7
  have hdat : l ++ m.take (min keep.toNat m.length) = l ++ m.take q1 := by rw [hq.out, hq1.out, HL'.out]
  obtain ⟨Dd, hDd⟩ : ∃ Dd, Hid (Dd = l ++ m.take q1) := ⟨_, rfl⟩
  have hdq : (Dd == ((⟨l.toArray⟩ : ByteArray) ++ (⟨(m.take q1).toArray⟩ : ByteArray)).toList) = true := by rw [ByteArray.mk_append_mk]; simp [hDd.out]
  have hl3 : l.length ≤ 300 := by rw [HL.out]; omega
  have hm3 : m.length ≤ 300 := by rw [HL'.out]; omega
  rw [hdat, ← hDd.out] at h7
  clear hdat
  have HB7 : Hid (Below w.heap.size w w7) := HB6.out.trans (hm7.below (by omega) (fun k hk => (H6.out.own.lt k hk).1) HB6.out.size)
  have H7 := Lib.hid h7; clear h7 hm7
  have HBs : Hid (Bs w7 a n c l) := HV.out.below HB7.out
  have HBs' : Hid (Bs w7 a' q1 c' (m.take q1)) := Bs.cut (HV'.out.below HB7.out) (lo := 0) (hi := q1) (Nat.zero_le _) hqn (a' := a') (fun b o e _ => by rw [e]; rfl) (fun h => h)
  have hca : ∀ w', Below w7.heap.size w7 w' → (convert 23 9 (.slice a n c)).run Try.prog w' = .ok (.string ⟨l.toArray⟩) w' := fun w' hb => run_conv_bs w' 23 9 5 Try.underlying23 Try.underlying5 Try.underlying9 a n c _ (Sl.below HBs.out hb)
  have hcb : ∀ w', Below w7.heap.size w7 w' → (convert 23 9 (.slice a' q1 c')).run Try.prog w' = .ok (.string ⟨(m.take q1).toArray⟩) w' := fun w' hb => run_conv_bs w' 23 9 5 Try.underlying23 Try.underlying5 Try.underlying9 a' q1 c' _ (Sl.below HBs'.out hb)
  have hw7 : Below w7.heap.size w7 w7.drew := (Below.refl _ _).drew
  have hqc : (q1 : Int) ≤ (c' : Int) := by omega
  go_wp2_with fail
  go_region_with (first
    | (go_at_call 21; refine (Bytes_any _ _ dv7 _ _ (by exact H7.out.below hw7)).mono ?_
       rintro e w8 ⟨a8, c8, rfl, hs8, hb8⟩
       have hbb : Below w7.heap.size w7 w8 := hw7.trans (hb8.mono hw7.size)
       have hc8 : (convert 23 9 (.slice a8 Dd.length c8)).run Try.prog w8 = .ok (.string ⟨Dd.toArray⟩) w8 := run_conv_bs w8 23 9 5 Try.underlying23 Try.underlying5 Try.underlying9 a8 _ c8 _ hs8
       clear hs8 hb8)
    | (go_at_call 22; refine (Down_any _ _ dv7 _ _ (by exact H7.out.below hbb)).mono ?_; rintro e w' ⟨rfl, rfl⟩))
  all_goals (go_wp2_with fail)
  all_goals (go_ret; exact ⟨rfl, HB7.out.trans (hbb.mono HB7.out.size)⟩)
end Go.Proofs.Ytelbapljkefjcaa
