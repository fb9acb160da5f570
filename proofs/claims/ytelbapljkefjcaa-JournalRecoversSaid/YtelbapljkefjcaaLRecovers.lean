/-
  The walk of JournalRecovers. Printed by recovers.py.
-/
import Derived.Test.YtelbapljkefjcaaLAppends
import Derived.Test.YtelbapljkefjcaaPlain8
namespace Go.Proofs.Ytelbapljkefjcaa
open Go.RowKit

theorem Recs.take {w : World} {a : Option Addr} {n c : Nat} {L : List (List UInt8)} (h : Recs w a n c L) {k : Nat} (hk : k ≤ n) : Recs w a k c (L.take k) := by
  obtain ⟨vs, h1, h2⟩ := h
  refine ⟨vs.take k, ?_, by rw [List.length_take, List.length_take, h2.1], fun i l hi => ?_⟩
  · have := Sl.cut h1 (lo := 0) (hi := k) (Nat.zero_le _) hk (a' := a) (fun b o e _ => by rw [e, Nat.zero_mul]; rfl) (fun h => h)
    simpa using this
  · rw [List.getElem?_take] at hi ⊢
    split at hi
    · rename_i hlt
      rw [if_pos hlt]
      exact h2.2 i l hi
    · cases hi

set_option maxHeartbeats 1600000 in
/-- Open on a device that is on and holds whole frames alone: it turns nothing. -/
theorem Open_calm (g base : Nat) (dv : Value) (D : DS) (w : World) (h : Dev w base 63 g dv D) (hoff : D.off = false) {Z : List (List UInt8)} (hs : scan D.data = (Z, D.data.length)) :
    Calls Try.prog 15 #[.pointer (some ⟨g, 0, none⟩)] w fun e w' => ∃ j a c, e = .returned (.tuple #[.pointer (some ⟨j, 0, none⟩), .slice a Z.length c, .int .i64 0]) ∧ Below w.heap.size w w' ∧ OwnRecs w' w.heap.size (.slice a Z.length c) Z := by
  obtain ⟨c0, c1, c2, c3, c4⟩ := h.cell
  have hltg := h.lt
  have hfit := h.ok.fits
  have hcap := h.ok.cap
  have H := Lib.hid h; clear h
  obtain ⟨da, dc, rfl, hds⟩ := H.out.slice
  have HDS := Lib.hid hds; clear hds
  rw [hoff] at c3
  have hsl := scan_length D.data
  rw [hs] at hsl
  have HS := Lib.hid hs; clear hs hoff
  go_enter Try.func15, Try.ntmps15
  go_wp2_with fail
  refine (Scan_any _ _ _ _ _ HDS.out (by omega)).mono ?_
  rintro e w1 ⟨a1, c1', rfl, hrec1, hb1⟩
  rw [HS.out] at hrec1 ⊢
  have HREC := Lib.hid hrec1; clear hrec1
  have hg1 : w1.heap[g]? = w.heap[g]? := hb1.block g hltg
  have d1 : w1.cell? ⟨g, 1, none⟩ = some (.slice da D.data.length dc) := (World.cell?_of_block (w := w) hg1).trans c1
  have HG1 := Lib.hid hg1; clear hg1
  have HB1 := Lib.hid hb1; clear hb1
  have hz1 := HB1.out.size
  go_wp2_with fail
  go_ret3
  exact ⟨_, a1, c1', rfl, HB1.out.alloc (by omega) _, HREC.out.below (Below.allocR _ _)⟩

set_option maxRecDepth 100000 in
set_option maxHeartbeats 3200000 in
theorem recovers_any (a : Option Addr) (n c : Nat) (L : List (List UInt8)) (nf keep : Int) (w : World) (hv : Recs w a n c L) (hnf : -9223372036854775808 ≤ nf ∧ nf ≤ 9223372036854775807) (_hk : -9223372036854775808 ≤ keep ∧ keep ≤ 9223372036854775807) :
    Calls Try.prog 9 #[.slice a n c, .int .i64 nf, .int .i64 keep] w (Holds w) := by
  have hl := hv.length
  have hnc : n ≤ c := by obtain ⟨_, h, _⟩ := hv; exact h.le_cap
  have HV := Lib.hid hv; clear hv
  have HL := Lib.hid hl; clear hl
  by_cases h1 : 6 < n
  · go_enter Try.func9, Try.ntmps9
    go_wp2_with fail
    refine (awake_any w).mono ?_
    rintro e w1 ⟨rfl, hb1⟩
    go_wp2_with fail
    refine (awake_any w1).mono ?_
    rintro e w2 ⟨rfl, hb2⟩
    go_wp2_with fail
    go_ret
    exact ⟨rfl, hb1.trans (hb2.mono hb1.size)⟩
  go_enter Try.func9, Try.ntmps9
  go_wp2_with fail
  refine (awake_any w).mono ?_
  rintro e w1 ⟨rfl, hb1⟩
  have hz1 := hb1.size
  have HB1 := Lib.hid hb1; clear hb1
  go_wp2_with fail
  refine (NewDevice_any 4000 w1 w.heap.size hz1).mono ?_
  rintro e w2 ⟨rfl, h2, hb2, hz2⟩
  rw [show DS.new 4000 = calm 4000 [] from new_calm (n := 4000) (by decide)] at h2
  have HB2 : Hid (Below w.heap.size w w2) := HB1.out.trans (hb2.mono hz1)
  have hz2' : w.heap.size ≤ w2.heap.size := by omega
  clear hb2 hz2
  have H2 := Lib.hid h2; clear h2
  go_wp2_with fail
  refine (Open_any _ _ _ _ _ H2.out).mono ?_
  rintro e w3 ⟨dv3, h3, hm3, hp⟩
  rw [calm_open _ (by simp)] at h3 hp
  simp only [if_true] at hp
  obtain ⟨j, a3, c3, rfl, hj3, hlj, hdj, hrec⟩ := hp
  clear hrec
  have hgl := H2.out.lt
  have hjg : j ≠ w1.heap.size := by omega
  have HB3 : Hid (Below w.heap.size w w3) := HB2.out.trans (hm3.below H2.out.low (fun k hk => (H2.out.own.lt k hk).1) hz2')
  clear hm3 hgl
  have H3 := Lib.hid h3; clear h3
  have HJ3 := Lib.hid hj3; clear hj3
  have HDJ := Lib.hid hdj; clear hdj
  go_wp2_with fail
  refine (Fail_any _ _ _ _ _ H3.out nf hnf.2).mono ?_
  rintro e w4 ⟨rfl, dv4, h4, hm4⟩
  rw [fail_calm] at h4
  have HB4 : Hid (Below w.heap.size w w4) := HB3.out.trans (hm4.below H3.out.low (fun k hk => (H3.out.own.lt k hk).1) HB3.out.size)
  have HJ4 : Hid (Jn w4 w.heap.size 66 j w1.heap.size 0 false) := HJ3.out.moved hm4 hjg HDJ.out
  have HDJ4 : Hid (dv4.ownBlock ≠ some j) := fun e => by
    rcases hm4.own j e with h | h
    · exact HDJ.out h
    · have := HJ3.out.lt; omega
  have H4 := Lib.hid h4; clear h4 hm4
  go_wp2_with fail
  go_loopw [11] (fun i wq => ∃ k : Nat, ∃ arm : Nat, ∃ dv, k ≤ n ∧ i = .int .i64 k ∧ Below w.heap.size w wq ∧ Dev wq w.heap.size 63 w1.heap.size dv (live 4000 (L.take k) arm) ∧ Jn wq w.heap.size 66 j w1.heap.size k false ∧ Hid (dv.ownBlock ≠ some j) ∧ Hid (∀ r ∈ L.take k, 1 ≤ r.length ∧ r.length ≤ 300)) (fun i _ => n - (intOf i).toNat)
  case atStart => exact ⟨0, nf.toNat, dv4, by omega, rfl, HB4.out, by rw [List.take_zero]; exact H4.out, HJ4.out, HDJ4, fun r hr => by simp at hr⟩
  case round =>
    obtain ⟨k, arm, dq, hk, rfl, hbq, hdq, hjq, HJD, hRq⟩ := hrel
    have HBQ := Lib.hid hbq; clear hbq
    have HDQ := Lib.hid hdq; clear hdq
    have HJQ := Lib.hid hjq; clear hjq
    have HVR := Lib.hid (HV.out.below HBQ.out)
    have hval : ∀ r ∈ L.take k, validB r.length = true := fun r hr => by have := hRq.out r hr; simp [validB]; omega
    have VALID := Lib.hid hval; clear hval
    by_cases hlt : k < n
    · obtain ⟨b, o, a1, n1, c1, rfl, hcell, hbs⟩ := HVR.out.at hlt
      have HBS := Lib.hid hbs; clear hbs
      by_cases hbad1 : n1 < 1
      · go_wp2_with fail
        go_ret
        exact ⟨rfl, HBQ.out⟩
      by_cases hbad2 : 300 < n1
      · go_wp2_with fail
        go_ret
        exact ⟨rfl, HBQ.out⟩
      have hfl := frames_length_le (L.take k) 300 (fun r hr => (hRq.out r hr).2)
      have hlk : (L.take k).length ≤ 6 := by rw [List.length_take, HL.out]; omega
      have hfl6 : (frames (L.take k)).length ≤ 1848 := by have : (L.take k).length * (8 + 300) ≤ 6 * 308 := Nat.mul_le_mul hlk (by omega); omega
      clear hfl hlk
      have hrl := HBS.out.length
      have HRL := Lib.hid hrl; clear hrl
      have hts := take_snoc L k (by rw [HL.out]; exact hlt)
      have HTS := Lib.hid hts; clear hts
      generalize hr : L.getD k [] = r at *
      have hvr : validB r.length = true := by rw [HRL.out]; simp [validB]; omega
      have HVR' := Lib.hid hvr
      have hran := ran 4000 (L.take k) r k arm VALID.out hvr (by rw [HRL.out]; omega)
      clear hvr hr hfl6
      rcases hran with ⟨k', hap⟩ | ⟨D, hap, hleft⟩
      · have HAP := Lib.hid hap; clear hap
        go_wp2_with fail
        refine (Append_any j _ _ dq ⟨live 4000 (L.take k) arm, k, false⟩ _ HDQ.out HJQ.out hjg HJD.out (by show k < _; omega) _ _ _ r HBS.out).mono ?_
        rintro e w5 ⟨rfl, dv5, h5, hj5, hm5, hd5⟩
        rw [HAP.out] at h5 hj5 ⊢
        have HB5 : Hid (Below w.heap.size w w5) := HBQ.out.trans (hm5.below HJQ.out.low HDQ.out.low (fun k hk => (HDQ.out.own.lt k hk).1) HBQ.out.size)
        have HD5 := Lib.hid hd5
        have H5 := Lib.hid h5
        have HJ5 := Lib.hid hj5
        clear h5 hj5 hm5 hd5
        have HR' : Hid (∀ s ∈ L.take (k + 1), 1 ≤ s.length ∧ s.length ≤ 300) := by
          show ∀ s ∈ _, _
          rw [HTS.out]
          intro s hs
          rcases List.mem_append.1 hs with h | h
          · exact hRq.out s h
          · have : s = r := by simpa using h
            have := HRL.out
            subst s
            omega
        go_wp2_with fail
        go_roundw
        case rel => exact ⟨k + 1, k', dv5, by omega, by go_num, HB5.out, by rw [HTS.out]; exact H5.out, HJ5.out, HD5, HR'⟩
        case measure => simp [intOf]; omega
      · have HAP := Lib.hid hap; clear hap
        have HLF := Lib.hid (hleft keep); clear hleft
        go_wp2_with fail
        refine (Append_any j _ _ dq ⟨live 4000 (L.take k) arm, k, false⟩ _ HDQ.out HJQ.out hjg HJD.out (by show k < _; omega) _ _ _ r HBS.out).mono ?_
        rintro e w5 ⟨rfl, dv5, h5, hj5, hm5, hd5⟩
        rw [HAP.out] at h5 ⊢
        have HBX : Hid (Below w.heap.size w w5) := HBQ.out.trans (hm5.below HJQ.out.low HDQ.out.low (fun k hk => (HDQ.out.own.lt k hk).1) HBQ.out.size)
        have H5 := Lib.hid h5
        clear h5 hj5 hm5 hd5 HRL
        rcases HLF.out with hlf | hlf
        · have HLF1 := Lib.hid hlf; clear hlf HLF HTS
          obtain ⟨Z, HZ⟩ : ∃ Z, Hid (Z = L.take (k)) := ⟨_, rfl⟩
          have hleft : (D.crash keep).open = (calm 4000 Z, Z, 0) := by rw [HZ.out]; exact HLF1.out
          have hzl : Z.length = k := by rw [HZ.out, List.length_take, HL.out]; omega
          have hzv : ∀ r ∈ Z, validB r.length = true := fun r hr => VALID.out r (by rw [← HZ.out]; exact hr)
          have HLEFT := Lib.hid hleft; clear hleft
          have HZL := Lib.hid hzl; clear hzl
          have HZV := Lib.hid hzv; clear hzv VALID
          go_wp2_with fail
          refine (Crash_any _ _ _ D _ H5.out keep).mono ?_
          rintro e w6 ⟨rfl, dv6, h6, hm6⟩
          have HB6 : Hid (Below w.heap.size w w6) := HBX.out.trans (hm6.below H5.out.low (fun k hk => (H5.out.own.lt k hk).1) HBX.out.size)
          have H6 := Lib.hid h6; clear h6 hm6
          go_wp2_with fail
          refine (Open_any _ _ _ _ _ H6.out).mono ?_
          rintro e w7 ⟨dv7, h7, hm7, hp⟩
          rw [HLEFT.out] at h7 hp
          simp only [if_true] at hp
          obtain ⟨j7, a7, c7, rfl, hj7, hlj7, hdj7, hrec7⟩ := hp
          have HB7 : Hid (Below w.heap.size w w7) := HB6.out.trans (hm7.below H6.out.low (fun k hk => (H6.out.own.lt k hk).1) HB6.out.size)
          have hlow7 : w6.heap.size ≤ w7.heap.size := hm7.size
          clear hm7 hj7 hlj7 hdj7
          have H7 := Lib.hid h7; clear h7
          obtain ⟨_, _, ee, hrs7⟩ := hrec7.recs
          obtain ⟨rfl, _, rfl⟩ := Value.slice.inj ee
          clear ee hrec7
          rw [HZL.out] at hrs7 ⊢
          have HR7 := Lib.hid hrs7; clear hrs7
          go_wp2_with fail
          refine (Open_calm _ _ _ _ _ H7.out rfl (scan_frames' HZV.out)).mono ?_
          rintro e w8 ⟨j8, a8, c8, rfl, hb8, hrec8⟩
          have HB8 : Hid (Below w.heap.size w w8) := HB7.out.trans (hb8.mono HB7.out.size)
          have HR78 : Hid (Recs w8 a7 (k) c7 Z) := HR7.out.below hb8
          obtain ⟨_, _, ee, hrs8⟩ := hrec8.recs
          obtain ⟨rfl, _, rfl⟩ := Value.slice.inj ee
          clear ee hrec8 hb8
          rw [HZL.out] at hrs8 ⊢
          have HR8 := Lib.hid hrs8; clear hrs8
          have hlz := HZL.out
          have hkc : (k : Int) ≤ (c : Int) := by omega
          have HVT := HV.out.below HB8.out
          have HT0 : Hid (Recs w8 _ k c (L.take k)) := HVT.take hk
          clear HVT
          go_wp2_with fail
          refine (Same_any _ _ _ _ _ _ Z Z _ HR78.out HR8.out (by omega) (by omega)).mono ?_
          rintro e w9 ⟨rfl, z9, rfl⟩
          rw [decide_eq_true (rfl : Z = Z)]
          go_wp2_with fail
          refine (Same_any _ _ _ _ _ _ Z (L.take k) _ (HR78.out.drewN _) (HT0.out.drewN _) (by omega) (by omega)).mono ?_
          rintro e w10 ⟨rfl, z10, rfl⟩
          rw [decide_eq_true HZ.out]
          go_wp2_with fail
          go_ret
          exact ⟨rfl, below_drewN HB8.out _⟩
        · have hlf1 : Left 4000 (D.crash keep) (L.take (k + 1)) := by rw [HTS.out]; exact hlf
          have HLF1 := Lib.hid hlf1; clear hlf hlf1 HLF
          have hval : ∀ s ∈ L.take (k + 1), validB s.length = true := by
            rw [HTS.out]
            intro s hs
            rcases List.mem_append.1 hs with h | h
            · exact VALID.out s h
            · have : s = r := by simpa using h
              rw [this]; exact HVR'.out
          clear VALID HTS
          have VALID := Lib.hid hval; clear hval
          obtain ⟨Z, HZ⟩ : ∃ Z, Hid (Z = L.take (k + 1)) := ⟨_, rfl⟩
          have hleft : (D.crash keep).open = (calm 4000 Z, Z, 0) := by rw [HZ.out]; exact HLF1.out
          have hzl : Z.length = k + 1 := by rw [HZ.out, List.length_take, HL.out]; omega
          have hzv : ∀ r ∈ Z, validB r.length = true := fun r hr => VALID.out r (by rw [← HZ.out]; exact hr)
          have HLEFT := Lib.hid hleft; clear hleft
          have HZL := Lib.hid hzl; clear hzl
          have HZV := Lib.hid hzv; clear hzv VALID
          go_wp2_with fail
          refine (Crash_any _ _ _ D _ H5.out keep).mono ?_
          rintro e w6 ⟨rfl, dv6, h6, hm6⟩
          have HB6 : Hid (Below w.heap.size w w6) := HBX.out.trans (hm6.below H5.out.low (fun k hk => (H5.out.own.lt k hk).1) HBX.out.size)
          have H6 := Lib.hid h6; clear h6 hm6
          go_wp2_with fail
          refine (Open_any _ _ _ _ _ H6.out).mono ?_
          rintro e w7 ⟨dv7, h7, hm7, hp⟩
          rw [HLEFT.out] at h7 hp
          simp only [if_true] at hp
          obtain ⟨j7, a7, c7, rfl, hj7, hlj7, hdj7, hrec7⟩ := hp
          have HB7 : Hid (Below w.heap.size w w7) := HB6.out.trans (hm7.below H6.out.low (fun k hk => (H6.out.own.lt k hk).1) HB6.out.size)
          have hlow7 : w6.heap.size ≤ w7.heap.size := hm7.size
          clear hm7 hj7 hlj7 hdj7
          have H7 := Lib.hid h7; clear h7
          obtain ⟨_, _, ee, hrs7⟩ := hrec7.recs
          obtain ⟨rfl, _, rfl⟩ := Value.slice.inj ee
          clear ee hrec7
          rw [HZL.out] at hrs7 ⊢
          have HR7 := Lib.hid hrs7; clear hrs7
          go_wp2_with fail
          refine (Open_calm _ _ _ _ _ H7.out rfl (scan_frames' HZV.out)).mono ?_
          rintro e w8 ⟨j8, a8, c8, rfl, hb8, hrec8⟩
          have HB8 : Hid (Below w.heap.size w w8) := HB7.out.trans (hb8.mono HB7.out.size)
          have HR78 : Hid (Recs w8 a7 (k + 1) c7 Z) := HR7.out.below hb8
          obtain ⟨_, _, ee, hrs8⟩ := hrec8.recs
          obtain ⟨rfl, _, rfl⟩ := Value.slice.inj ee
          clear ee hrec8 hb8
          rw [HZL.out] at hrs8 ⊢
          have HR8 := Lib.hid hrs8; clear hrs8
          have hlz := HZL.out
          have hkc : (k : Int) ≤ (c : Int) := by omega
          have HVT := HV.out.below HB8.out
          have HT0 : Hid (Recs w8 _ k c (L.take k)) := HVT.take hk
          have HT1 : Hid (Recs w8 _ (k + 1) c (L.take (k + 1))) := HVT.take (by omega)
          have hkc1 : (k : Int) + 1 ≤ (c : Int) := by omega
          have hkt : ((k : Int) + 1).toNat = k + 1 := by omega
          clear HVT
          go_wp2_with fail
          refine (Same_any _ _ _ _ _ _ Z Z _ HR78.out HR8.out (by omega) (by omega)).mono ?_
          rintro e w9 ⟨rfl, z9, rfl⟩
          rw [decide_eq_true (rfl : Z = Z)]
          go_wp2_with fail
          refine (Same_any _ _ _ _ _ _ Z (L.take k) _ (HR78.out.drewN _) (HT0.out.drewN _) (by omega) (by omega)).mono ?_
          rintro e w10 ⟨rfl, z10, rfl⟩
          rw [decide_eq_false (p := Z = L.take k) (fun e => by have h1 := congrArg List.length e; rw [List.length_take, HL.out, HZL.out] at h1; omega)]
          go_wp2_with fail
          refine (Same_any _ _ _ _ _ _ Z (L.take (k + 1)) _ (HR78.out.drewN _) (HT1.out.drewN _) (by omega) (by omega)).mono ?_
          rintro e w11 ⟨rfl, z11, rfl⟩
          rw [decide_eq_true HZ.out]
          go_wp2_with fail
          go_ret
          exact ⟨rfl, below_drewN HB8.out _⟩
    · have hlf := live_crash 4000 arm keep VALID.out
      have HLF1 := Lib.hid hlf; clear hlf
      have HBX := HBQ
      obtain ⟨Z, HZ⟩ : ∃ Z, Hid (Z = L.take (k)) := ⟨_, rfl⟩
      have hleft : ((live 4000 (L.take k) arm).crash keep).open = (calm 4000 Z, Z, 0) := by rw [HZ.out]; exact HLF1.out
      have hzl : Z.length = k := by rw [HZ.out, List.length_take, HL.out]; omega
      have hzv : ∀ r ∈ Z, validB r.length = true := fun r hr => VALID.out r (by rw [← HZ.out]; exact hr)
      have HLEFT := Lib.hid hleft; clear hleft
      have HZL := Lib.hid hzl; clear hzl
      have HZV := Lib.hid hzv; clear hzv VALID
      go_wp2_with fail
      refine (Crash_any _ _ _ (live 4000 (L.take k) arm) _ HDQ.out keep).mono ?_
      rintro e w6 ⟨rfl, dv6, h6, hm6⟩
      have HB6 : Hid (Below w.heap.size w w6) := HBX.out.trans (hm6.below HDQ.out.low (fun k hk => (HDQ.out.own.lt k hk).1) HBX.out.size)
      have H6 := Lib.hid h6; clear h6 hm6
      go_wp2_with fail
      refine (Open_any _ _ _ _ _ H6.out).mono ?_
      rintro e w7 ⟨dv7, h7, hm7, hp⟩
      rw [HLEFT.out] at h7 hp
      simp only [if_true] at hp
      obtain ⟨j7, a7, c7, rfl, hj7, hlj7, hdj7, hrec7⟩ := hp
      have HB7 : Hid (Below w.heap.size w w7) := HB6.out.trans (hm7.below H6.out.low (fun k hk => (H6.out.own.lt k hk).1) HB6.out.size)
      have hlow7 : w6.heap.size ≤ w7.heap.size := hm7.size
      clear hm7 hj7 hlj7 hdj7
      have H7 := Lib.hid h7; clear h7
      obtain ⟨_, _, ee, hrs7⟩ := hrec7.recs
      obtain ⟨rfl, _, rfl⟩ := Value.slice.inj ee
      clear ee hrec7
      rw [HZL.out] at hrs7 ⊢
      have HR7 := Lib.hid hrs7; clear hrs7
      go_wp2_with fail
      refine (Open_calm _ _ _ _ _ H7.out rfl (scan_frames' HZV.out)).mono ?_
      rintro e w8 ⟨j8, a8, c8, rfl, hb8, hrec8⟩
      have HB8 : Hid (Below w.heap.size w w8) := HB7.out.trans (hb8.mono HB7.out.size)
      have HR78 : Hid (Recs w8 a7 (k) c7 Z) := HR7.out.below hb8
      obtain ⟨_, _, ee, hrs8⟩ := hrec8.recs
      obtain ⟨rfl, _, rfl⟩ := Value.slice.inj ee
      clear ee hrec8 hb8
      rw [HZL.out] at hrs8 ⊢
      have HR8 := Lib.hid hrs8; clear hrs8
      have hlz := HZL.out
      have hkc : (k : Int) ≤ (c : Int) := by omega
      have HVT := HV.out.below HB8.out
      have HT0 : Hid (Recs w8 _ k c (L.take k)) := HVT.take hk
      clear HVT
      go_wp2_with fail
      refine (Same_any _ _ _ _ _ _ Z Z _ HR78.out HR8.out (by omega) (by omega)).mono ?_
      rintro e w9 ⟨rfl, z9, rfl⟩
      rw [decide_eq_true (rfl : Z = Z)]
      go_wp2_with fail
      refine (Same_any _ _ _ _ _ _ Z (L.take k) _ (HR78.out.drewN _) (HT0.out.drewN _) (by omega) (by omega)).mono ?_
      rintro e w10 ⟨rfl, z10, rfl⟩
      rw [decide_eq_true HZ.out]
      go_wp2_with fail
      go_ret
      exact ⟨rfl, below_drewN HB8.out _⟩
end Go.Proofs.Ytelbapljkefjcaa
