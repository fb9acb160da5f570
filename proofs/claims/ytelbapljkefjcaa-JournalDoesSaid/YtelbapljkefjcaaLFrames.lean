/-
  The walk of JournalFrames.
-/
import Derived.Test.YtelbapljkefjcaaAwake
import Derived.Test.YtelbapljkefjcaaPlain4
namespace Go.Proofs.Ytelbapljkefjcaa
open Go.RowKit

/-- What every law leaves: true, and nothing that was there has turned. -/
def Holds (w : World) (e : Ending) (w' : World) : Prop := e = .returned (.bool true) ∧ Below w.heap.size w w'

theorem take_snoc (L : List (List UInt8)) (k : Nat) (h : k < L.length) : L.take (k + 1) = L.take k ++ [L.getD k []] := by
  rw [List.take_succ_eq_append_getElem h]
  simp [List.getD, h]
theorem frame_length_le (r : List UInt8) : (frame r).length ≤ 8 + r.length := by
  cases h : validB r.length with
  | true => rw [frame_length r h]; omega
  | false => simp [frame, h]

set_option maxRecDepth 100000 in
set_option maxHeartbeats 1600000 in
theorem frames_any (a : Option Addr) (n c : Nat) (L : List (List UInt8)) (a' : Option Addr) (n' c' : Nat) (l : List UInt8) (cut : Int) (w : World) (hv : Recs w a n c L) (hv' : Bs w a' n' c' l) (_hcut : -9223372036854775808 ≤ cut ∧ cut ≤ 9223372036854775807) :
    Calls Try.prog 3 #[.slice a n c, .slice a' n' c', .int .i64 cut] w (Holds w) := by
  have hl := hv.length
  have hl' := hv'.length
  have HV := Lib.hid hv; clear hv
  have HV' := Lib.hid hv'; clear hv'
  have HL := Lib.hid hl; clear hl
  have HL' := Lib.hid hl'; clear hl'
  have hc' := HV'.out.le_cap
  have hcm' := HV'.out.cap_le
  unfold maxLen at hcm'
  by_cases h6 : 6 < n
  · go_enter Try.func3, Try.ntmps3
    go_wp2_with fail
    refine (awake_any w).mono ?_
    rintro e w1 ⟨rfl, hb1⟩
    go_wp2_with fail
    refine (awake_any w1).mono ?_
    rintro e w2 ⟨rfl, hb2⟩
    go_wp2_with fail
    go_ret
    exact ⟨rfl, hb1.trans (hb2.mono hb1.size)⟩
  by_cases h300 : 300 < n'
  · go_enter Try.func3, Try.ntmps3
    go_wp2_with fail
    refine (awake_any w).mono ?_
    rintro e w1 ⟨rfl, hb1⟩
    go_wp2_with fail
    refine (awake_any w1).mono ?_
    rintro e w2 ⟨rfl, hb2⟩
    go_wp2_with fail
    go_ret
    exact ⟨rfl, hb1.trans (hb2.mono hb1.size)⟩
  go_enter Try.func3, Try.ntmps3
  go_wp2_with fail
  refine (awake_any w).mono ?_
  rintro e w1 ⟨rfl, hb1⟩
  have hz1 := hb1.size
  have HB1 := Lib.hid hb1; clear hb1
  go_wp2_with fail
  go_loopw [7, 8] (fun v i wr => ∃ k : Nat, k ≤ n ∧ i = .int .i64 k ∧ Below w.heap.size w wr ∧ wr.ownsRow w.heap.size 5 1 v (frames (L.take k)).length ((frames (L.take k)).map B) ∧ Hid (∀ r ∈ L.take k, 1 ≤ r.length ∧ r.length ≤ 300)) (fun _ i _ => n - (intOf i).toNat)
  case atStart =>
    refine ⟨0, Nat.zero_le _, rfl, HB1.out.alloc hz1 _, ?_, fun r hr => by simp at hr⟩
    simpa [frames] using World.ownsRow_lit w1 #[] 0 hz1 (Nat.zero_le _) rfl
  case round =>
    obtain ⟨k, hk, rfl, hb, hown, hR⟩ := hrel
    have HB := Lib.hid hb; clear hb
    obtain ⟨vb, vc, rfl, hvs, _⟩ := ownsRow_sl hown
    have HOWN := Lib.hid hown; clear hown
    have HVS := Lib.hid hvs; clear hvs
    have HVR := Lib.hid (HV.out.below HB.out)
    by_cases hlt : k < n
    · obtain ⟨b, o, a1, n1, c1, rfl, hcell, hbs⟩ := HVR.out.at hlt
      have HBS := Lib.hid hbs; clear hbs
      by_cases hbad1 : n1 < 1
      · go_wp2_with fail
        go_ret
        exact ⟨rfl, HB.out⟩
      by_cases hbad2 : 300 < n1
      · go_wp2_with fail
        go_ret
        exact ⟨rfl, HB.out⟩
      have hfl := frames_length_le (L.take k) 300 (fun r hr => (hR.out r hr).2)
      have hlk : (L.take k).length = k := by rw [List.length_take, HL.out]; omega
      rw [hlk] at hfl
      have hfl6 : (frames (L.take k)).length ≤ 1848 := by have : k * (8 + 300) ≤ 6 * 308 := Nat.mul_le_mul (by omega) (by omega); omega
      clear hfl
      have hrl := HBS.out.length
      have HRL := Lib.hid hrl; clear hrl
      have HLK := Lib.hid hlk; clear hlk
      have hts := take_snoc L k (by rw [HL.out]; exact hlt)
      have HTS := Lib.hid hts; clear hts
      generalize hr : L.getD k [] = r at *
      have HGR := Lib.hid hr; clear hr
      generalize hF : frames (L.take k) = F at *
      have HGF := Lib.hid hF; clear hF
      have hfr : (frame r).length ≤ 308 := by have := frame_length_le r; have := HRL.out; omega
      have HFR := Lib.hid hfr; clear hfr
      go_wp2_with fail
      refine (Frame_any _ _ _ r _ HBS.out).mono ?_
      rintro e w2 ⟨a2, c2, rfl, hown2, hb2⟩
      obtain ⟨_, _, ee, hs2, _⟩ := ownsRow_sl hown2
      obtain ⟨rfl, _, rfl⟩ := Value.slice.inj ee
      have HS2 := Lib.hid hs2; clear hs2 hown2 ee
      have hz2 := hb2.size
      have hzr := HB.out.size
      have hfr := HFR.out
      have HB2 := Lib.hid hb2; clear hb2
      go_wp2_with (at_builtin; refine wpList_append_to rfl (.tmp 47) (.tmp 52) 23 rfl w.heap.size 5 (.int .u8 0) 1 1 Try.underlying23 info5 rfl (by omega) (.slice vb F.length vc) _ _ rfl (ownsRow_below HOWN.out HB2.out) a2 (frame r).length c2 _ rfl HS2.out (oneCell_B _) (by unfold maxLen; omega) (by omega) (by omega) (F ++ frame r).length (List.length_append) _ (List.map_append (f := B) (l₁ := F) (l₂ := frame r)) ?_; intro a3 c3 w3 hown3 hgr3 hblk3)
      have hb3 : Below w.heap.size w w3 := (HB.out.trans (HB2.out.mono hzr)).grown hgr3 (by omega) (fun q hq => (HOWN.out.lt q hq).1)
      have hcat : frames (L.take (k + 1)) = F ++ frame r := by rw [HTS.out, frames_snoc, HGF.out]
      have HR' : Hid (∀ s ∈ L.take (k + 1), 1 ≤ s.length ∧ s.length ≤ 300) := by
        show ∀ s ∈ _, _
        rw [HTS.out]
        intro s hs
        rcases List.mem_append.1 hs with h | h
        · exact hR.out s h
        · have : s = r := by simpa using h
          have := HRL.out
          subst s
          omega
      rw [List.length_append] at hown3
      go_roundw
      case rel => exact ⟨k + 1, by omega, by go_num, hb3, by rw [hcat, List.length_append]; exact hown3, HR'⟩
      case measure => simp [intOf]; omega
    · have hkn : L.take k = L := List.take_of_length_le (by rw [HL.out]; omega)
      have hall := hR.out
      rw [hkn] at hall
      have hown := HOWN.out
      rw [hkn] at hown
      have hfl := frames_length_le L 300 (fun r hr => (hall r hr).2)
      rw [HL.out] at hfl
      have hfl6 : (frames L).length ≤ 1848 := by have : n * (8 + 300) ≤ 6 * 308 := Nat.mul_le_mul (by omega) (by omega); omega
      have hval : ∀ r ∈ L, validB r.length = true := fun r hr => by have := hall r hr; simp [validB]; omega
      have HVAL := Lib.hid hval; clear hval hall hfl hR
      clear HOWN HVS
      rw [hkn]
      clear hkn
      have HOWN := Lib.hid hown; clear hown
      generalize hF : frames L = F at *
      have HGF := Lib.hid hF; clear hF
      have hfr : (frame l).length ≤ 308 := by have := frame_length_le l; have := HL'.out; omega
      have HFR := Lib.hid hfr; clear hfr
      go_wp2_with fail
      refine (Frame_any _ _ _ l _ (HV'.out.below HB.out)).mono ?_
      rintro e w2 ⟨a2, c2, rfl, hown2, hb2⟩
      obtain ⟨_, _, ee, hs2, _⟩ := ownsRow_sl hown2
      obtain ⟨rfl, _, rfl⟩ := Value.slice.inj ee
      have HS2 := Lib.hid hs2; clear hs2 hown2 ee
      have hz2 := hb2.size
      have hzr := HB.out.size
      have hfr := HFR.out
      have hfc := HS2.out.le_cap
      have HB2 := Lib.hid hb2; clear hb2
      by_cases hg1 : cut < 0
      · have HSQ : Hid (Sl w2 1 a2 0 c2 (((frame l).take 0).map B)) := Bs.cut HS2.out (lo := 0) (hi := 0) (Nat.le_refl _) (Nat.zero_le _) (a' := a2) (fun b o e _ => by rw [e]; rfl) (fun h => h)
        have hsc : scan (F ++ (frame l).take 0) = (L, F.length) := by rw [← HGF.out, scan_frames L _ HVAL.out, List.take_zero, scan_nil]; simp
        have HSC := Lib.hid hsc; clear hsc
        go_wp2_with (at_builtin; refine wpList_append_to rfl (.tmp 67) (.tmp 70) 23 rfl w.heap.size 5 (.int .u8 0) 1 1 Try.underlying23 info5 rfl (by omega) (.slice vb F.length vc) _ _ rfl (ownsRow_below HOWN.out HB2.out) a2 0 c2 (((frame l).take 0).map B) rfl HSQ.out (oneCell_B _) (by unfold maxLen; omega) (by omega) (by omega) (F.length + 0) rfl _ (List.map_append (f := B) (l₁ := F) (l₂ := (frame l).take 0)) ?_; intro a3 c3 w3 hown3 hgr3 hblk3)
        have hb3 : Below w.heap.size w w3 := (HB.out.trans (HB2.out.mono hzr)).grown hgr3 (by omega) (fun q hq => (HOWN.out.lt q hq).1)
        obtain ⟨_, _, ee, hs3, _⟩ := ownsRow_sl hown3
        obtain ⟨rfl, _, rfl⟩ := Value.slice.inj ee
        have HS3 := Lib.hid hs3; clear hs3 hown3 ee hgr3 hblk3
        have HB3 := Lib.hid hb3; clear hb3
        refine (Scan_any _ _ _ (F ++ (frame l).take 0) _ HS3.out (by omega)).mono ?_
        rintro e w4 ⟨a4, c4, rfl, hrec4, hb4⟩
        rw [HSC.out] at hrec4 ⊢
        have HB4 := Lib.hid hb4; clear hb4
        obtain ⟨_, _, ee, hrs⟩ := hrec4.recs
        obtain ⟨rfl, _, rfl⟩ := Value.slice.inj ee
        clear hrec4 ee
        simp only []
        have HRS := Lib.hid hrs; clear hrs
        have hz3 := HB3.out.size
        have hz4 := HB4.out.size
        go_wp2_with fail
        refine (Same_any _ _ _ _ _ _ L L _ HRS.out (HV.out.below (HB3.out.trans (HB4.out.mono hz3))) (by have := HL.out; omega) (by omega)).mono ?_
        rintro e w5 ⟨rfl, z5, rfl⟩
        go_wp2_with fail
        go_ret
        exact ⟨by simp, below_drewN (HB3.out.trans (HB4.out.mono hz3)) _⟩
      by_cases hg2 : ((frame l).length : Int) ≤ cut
      · have HSQ : Hid (Sl w2 1 a2 0 c2 (((frame l).take 0).map B)) := Bs.cut HS2.out (lo := 0) (hi := 0) (Nat.le_refl _) (Nat.zero_le _) (a' := a2) (fun b o e _ => by rw [e]; rfl) (fun h => h)
        have hsc : scan (F ++ (frame l).take 0) = (L, F.length) := by rw [← HGF.out, scan_frames L _ HVAL.out, List.take_zero, scan_nil]; simp
        have HSC := Lib.hid hsc; clear hsc
        go_wp2_with (at_builtin; refine wpList_append_to rfl (.tmp 67) (.tmp 70) 23 rfl w.heap.size 5 (.int .u8 0) 1 1 Try.underlying23 info5 rfl (by omega) (.slice vb F.length vc) _ _ rfl (ownsRow_below HOWN.out HB2.out) a2 0 c2 (((frame l).take 0).map B) rfl HSQ.out (oneCell_B _) (by unfold maxLen; omega) (by omega) (by omega) (F.length + 0) rfl _ (List.map_append (f := B) (l₁ := F) (l₂ := (frame l).take 0)) ?_; intro a3 c3 w3 hown3 hgr3 hblk3)
        have hb3 : Below w.heap.size w w3 := (HB.out.trans (HB2.out.mono hzr)).grown hgr3 (by omega) (fun q hq => (HOWN.out.lt q hq).1)
        obtain ⟨_, _, ee, hs3, _⟩ := ownsRow_sl hown3
        obtain ⟨rfl, _, rfl⟩ := Value.slice.inj ee
        have HS3 := Lib.hid hs3; clear hs3 hown3 ee hgr3 hblk3
        have HB3 := Lib.hid hb3; clear hb3
        refine (Scan_any _ _ _ (F ++ (frame l).take 0) _ HS3.out (by omega)).mono ?_
        rintro e w4 ⟨a4, c4, rfl, hrec4, hb4⟩
        rw [HSC.out] at hrec4 ⊢
        have HB4 := Lib.hid hb4; clear hb4
        obtain ⟨_, _, ee, hrs⟩ := hrec4.recs
        obtain ⟨rfl, _, rfl⟩ := Value.slice.inj ee
        clear hrec4 ee
        simp only []
        have HRS := Lib.hid hrs; clear hrs
        have hz3 := HB3.out.size
        have hz4 := HB4.out.size
        go_wp2_with fail
        refine (Same_any _ _ _ _ _ _ L L _ HRS.out (HV.out.below (HB3.out.trans (HB4.out.mono hz3))) (by have := HL.out; omega) (by omega)).mono ?_
        rintro e w5 ⟨rfl, z5, rfl⟩
        go_wp2_with fail
        go_ret
        exact ⟨by simp, below_drewN (HB3.out.trans (HB4.out.mono hz3)) _⟩
      obtain ⟨q, rfl⟩ := Int.eq_ofNat_of_zero_le (show 0 ≤ cut by omega)
      have hq : q < (frame l).length := by omega
      have HSQ : Hid (Sl w2 1 a2 q c2 (((frame l).take q).map B)) := Bs.cut HS2.out (lo := 0) (hi := q) (Nat.zero_le _) (by omega) (a' := a2) (fun b o e _ => by rw [e]; rfl) (fun h => h)
      have hsc : scan (F ++ (frame l).take q) = (L, F.length) := by rw [← HGF.out, scan_frames L _ HVAL.out, scan_prefix l q hq]; simp
      have HSC := Lib.hid hsc; clear hsc
      go_wp2_with (at_builtin; refine wpList_append_to rfl (.tmp 67) (.tmp 70) 23 rfl w.heap.size 5 (.int .u8 0) 1 1 Try.underlying23 info5 rfl (by omega) (.slice vb F.length vc) _ _ rfl (ownsRow_below HOWN.out HB2.out) a2 q c2 (((frame l).take q).map B) rfl HSQ.out (oneCell_B _) (by unfold maxLen; omega) (by omega) (by omega) (F.length + q) rfl _ (List.map_append (f := B) (l₁ := F) (l₂ := (frame l).take q)) ?_; intro a3 c3 w3 hown3 hgr3 hblk3)
      have hb3 : Below w.heap.size w w3 := (HB.out.trans (HB2.out.mono hzr)).grown hgr3 (by omega) (fun q hq => (HOWN.out.lt q hq).1)
      obtain ⟨_, _, ee, hs3, _⟩ := ownsRow_sl hown3
      obtain ⟨rfl, _, rfl⟩ := Value.slice.inj ee
      have HS3 := Lib.hid hs3; clear hs3 hown3 ee hgr3 hblk3
      have HB3 := Lib.hid hb3; clear hb3
      refine (Scan_any _ _ _ (F ++ (frame l).take q) _ HS3.out (by omega)).mono ?_
      rintro e w4 ⟨a4, c4, rfl, hrec4, hb4⟩
      rw [HSC.out] at hrec4 ⊢
      have HB4 := Lib.hid hb4; clear hb4
      obtain ⟨_, _, ee, hrs⟩ := hrec4.recs
      obtain ⟨rfl, _, rfl⟩ := Value.slice.inj ee
      clear hrec4 ee
      simp only []
      have HRS := Lib.hid hrs; clear hrs
      have hz3 := HB3.out.size
      have hz4 := HB4.out.size
      go_wp2_with fail
      refine (Same_any _ _ _ _ _ _ L L _ HRS.out (HV.out.below (HB3.out.trans (HB4.out.mono hz3))) (by have := HL.out; omega) (by omega)).mono ?_
      rintro e w5 ⟨rfl, z5, rfl⟩
      go_wp2_with fail
      go_ret
      exact ⟨by simp, below_drewN (HB3.out.trans (HB4.out.mono hz3)) _⟩
end Go.Proofs.Ytelbapljkefjcaa
