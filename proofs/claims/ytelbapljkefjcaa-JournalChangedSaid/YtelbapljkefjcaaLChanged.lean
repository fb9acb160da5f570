/-
  The walk of JournalChanged.
-/
import Derived.Test.YtelbapljkefjcaaLFrames
import Derived.Test.YtelbapljkefjcaaPlain5
namespace Go.Proofs.Ytelbapljkefjcaa
open Go.RowKit

set_option maxRecDepth 100000 in
set_option maxHeartbeats 1600000 in
theorem changed_any (a : Option Addr) (n c : Nat) (r : List UInt8) (at_ : Int) (x : Int) (w : World) (hv : Bs w a n c r) (_ha : -9223372036854775808 ≤ at_ ∧ at_ ≤ 9223372036854775807) (hx : 0 ≤ x ∧ x < 256) :
    Calls Try.prog 4 #[.slice a n c, .int .i64 at_, .int .u8 x] w (Holds w) := by
  obtain ⟨y, rfl⟩ : ∃ y : UInt8, x = (y.toNat : Int) := ⟨UInt8.ofNat x.toNat, by rw [UInt8.toNat_ofNat']; omega⟩
  have hl := hv.length
  have HV := Lib.hid hv; clear hv
  have HL := Lib.hid hl; clear hl
  have hc := HV.out.le_cap
  have hcm := HV.out.cap_le
  unfold maxLen at hcm
  clear hx
  by_cases h1 : n < 1
  · go_enter Try.func4, Try.ntmps4
    go_wp2_with fail
    refine (awake_any w).mono ?_
    rintro e w1 ⟨rfl, hb1⟩
    go_wp2_with fail
    refine (awake_any w1).mono ?_
    rintro e w2 ⟨rfl, hb2⟩
    go_wp2_with fail
    go_ret
    exact ⟨rfl, hb1.trans (hb2.mono hb1.size)⟩
  by_cases h300 : 300 < n
  · go_enter Try.func4, Try.ntmps4
    go_wp2_with fail
    refine (awake_any w).mono ?_
    rintro e w1 ⟨rfl, hb1⟩
    go_wp2_with fail
    refine (awake_any w1).mono ?_
    rintro e w2 ⟨rfl, hb2⟩
    go_wp2_with fail
    go_ret
    exact ⟨rfl, hb1.trans (hb2.mono hb1.size)⟩
  have hval : validB r.length = true := by rw [HL.out]; simp [validB]; omega
  have hfl := frame_length r hval
  rw [HL.out] at hfl
  have HFL := Lib.hid hfl; clear hfl
  go_enter Try.func4, Try.ntmps4
  go_wp2_with fail
  refine (awake_any w).mono ?_
  rintro e w1 ⟨rfl, hb1⟩
  have hz1 := hb1.size
  have HB1 := Lib.hid hb1; clear hb1
  go_wp2_with fail
  refine (Frame_any _ _ _ r _ (HV.out.below HB1.out)).mono ?_
  rintro e w2 ⟨a2, c2, rfl, hown2, hb2⟩
  have hz2 := hb2.size
  have HB2 : Hid (Below w.heap.size w w2) := HB1.out.trans (hb2.mono hz1)
  clear hb2
  rw [HFL.out] at hown2 ⊢
  obtain ⟨_, _, ee, hs2, _⟩ := ownsRow_sl hown2
  obtain ⟨rfl, _, rfl⟩ := Value.slice.inj ee
  have HO2 := Lib.hid hown2; clear hown2
  have HS2 := Lib.hid hs2; clear hs2 ee
  by_cases g1 : at_ < 0
  · go_wp2_with fail
    go_ret
    exact ⟨rfl, HB2.out⟩
  by_cases g2 : ((8 + n : Nat) : Int) ≤ at_
  · have g2' : 8 + (n : Int) ≤ at_ := by omega
    go_wp2_with fail
    go_ret
    exact ⟨rfl, HB2.out⟩
  obtain ⟨k, rfl⟩ := Int.eq_ofNat_of_zero_le (show 0 ≤ at_ by omega)
  have g3 : (k : Int) < 8 + (n : Int) := by omega
  have hk : k < 8 + n := by omega
  obtain ⟨b, o, rfl, hcell⟩ := Bs.at HS2.out hk
  have h00 : o = 0 := by
    rcases HO2.out.2 with ⟨h, _⟩ | ⟨g, cap, cur, h, _⟩
    · simp at h
    · simp at h; exact h.1.2
  subst h00
  rw [Nat.zero_add] at hcell
  unfold B at hcell
  have hzb := (frame r).getD k 0 |>.toNat_lt
  by_cases hxx : (frame r).getD k 0 = y
  · have hq : ((((frame r).getD k 0).toNat : Int) == (y.toNat : Int)) = true := by rw [hxx]; simp
    generalize (frame r).getD k 0 = z at *
    go_wp2_with fail
    go_ret
    exact ⟨rfl, HB2.out⟩
  have hq : ((((frame r).getD k 0).toNat : Int) == (y.toNat : Int)) = false := by
    rw [beq_eq_false_iff_ne]
    intro e
    exact hxx (UInt8.toNat_inj.1 (by omega))
  have hch := changed r k y (by rw [HL.out]; omega) (by rw [HL.out]; omega) (by rw [HFL.out]; exact hk) hxx
  have HXX := Lib.hid hxx; clear hxx
  have HCH := Lib.hid hch; clear hch
  have hfz := HO2.out.frozenAt k
  have hst := HO2.out.stored k (.int .u8 y.toNat)
  have hset : ((frame r).map B).set k (.int .u8 y.toNat) = ((frame r).set k y).map B := by rw [List.map_set]; rfl
  rw [hset] at hst
  have HST := Lib.hid hst; clear hst hset
  generalize (frame r).getD k 0 = z at *
  go_wp2_with fail
  obtain ⟨_, _, ee, hs3, _⟩ := ownsRow_sl HST.out.1
  obtain ⟨rfl, _, rfl⟩ := Value.slice.inj ee
  clear ee
  refine (Scan_any _ _ _ ((frame r).set k y) _ hs3 (by omega)).mono ?_
  clear hs3
  rintro e w4 ⟨a4, c4, rfl, hrec4, hb4⟩
  clear hrec4
  have hbb : w1.heap.size ≤ b := (HO2.out.lt b rfl).1
  have HB3 : Hid (Below w.heap.size w w4) := (HB2.out.setCell (p := ⟨b, k, none⟩) (by show w.heap.size ≤ b; omega) _).trans (hb4.mono (by simp; omega))
  clear hb4
  rcases HCH.out with h | ⟨e1, e2, e3⟩
  · rw [h]
    clear h
    go_wp2_with fail
    go_ret
    exact ⟨rfl, HB3.out⟩
  · rw [e1]
    rw [List.length_set, HFL.out] at e2
    have HE1 := Lib.hid e1; clear e1
    have e4 : (((scan ((frame r).set k y)).2 : Nat) : Int) < 8 + (n : Int) := by omega
    have e5 : (k : Int) < 8 := by omega
    clear e2 e3
    generalize (scan ((frame r).set k y)).2 = m at *
    go_wp2_with fail
    go_ret
    exact ⟨rfl, HB3.out⟩
end Go.Proofs.Ytelbapljkefjcaa
