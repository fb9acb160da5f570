/-
  The walk of JournalDoes. Printed by does.py.
-/
import Derived.Test.YtelbapljkefjcaaDuo
import Derived.Test.YtelbapljkefjcaaHeld
import Derived.Test.YtelbapljkefjcaaApart
namespace Go.Proofs.Ytelbapljkefjcaa
open Go.RowKit

def FewPost (n : Nat) (w : World) (e : Ending) (w' : World) : Prop := w = w' ∧ ∃ r, e = .returned (.bool r) ∧ (r = true → n ≤ 30)

set_option maxHeartbeats 800000 in
theorem few2_any (a : Option Addr) (n c : Nat) (L : List St) (w : World) (hv : Steps w a n c L) :
    Calls Try.prog 23 #[.slice a n c] w (FewPost n w) := by
  have hl := hv.len
  have hc := hv.le
  have hm := hv.cap
  unfold maxLen at hm
  have HV := Lib.hid hv; clear hv
  have HL := Lib.hid hl; clear hl
  go_enter Try.func23, Try.ntmps23
  go_wp2_with fail
  go_loopw [3] (fun i wr => ∃ k : Nat, k ≤ n ∧ i = .int .i64 k ∧ w = wr) (fun i _ => n - (intOf i).toNat)
  case atStart => exact ⟨0, Nat.zero_le _, rfl, rfl⟩
  case round =>
    obtain ⟨k, hk, rfl, rfl⟩ := hrel
    by_cases hlt : k < n
    · obtain ⟨b, o, x, m, q, rfl, c0, c1, c2, hbs, hr0, hr1⟩ := HV.out.at_ k _ (List.getElem?_eq_getElem (by rw [HL.out]; exact hlt))
      have HBS := Lib.hid hbs; clear hbs
      have hmc := HBS.out.le_cap
      have hmm := HBS.out.cap_le
      unfold maxLen at hmm
      go_wp2_with fail
      · go_ret
        exact ⟨rfl, false, rfl, fun h => by cases h⟩
      · go_roundw
        case rel => exact ⟨k + 1, by omega, by go_num, trivial⟩
        case measure => simp [intOf]; omega
    · go_wp2_with fail
      go_ret
      exact ⟨rfl, _, rfl, fun h => by have := of_decide_eq_true h; omega⟩

theorem cnt_le (J : JS) (r : List UInt8) : (J.append r).1.n ≤ J.n + 1 := by
  simp only [JS.append, JS.cnt]
  split <;> omega

theorem open_len (D : DS) : D.open.2.1.length ≤ D.data.length := by
  have h1 := scan_length D.data
  unfold DS.open
  split
  · simp
  · split
    · split
      · simp
      · exact h1
    · exact h1

set_option maxRecDepth 100000 in
set_option maxHeartbeats 6400000 in
theorem does_any (size : Int) (a : Option Addr) (n c : Nat) (L : List St) (w : World) (_hs : -9223372036854775808 ≤ size ∧ size ≤ 9223372036854775807) (hv : Steps w a n c L) :
    Calls Try.prog 8 #[.int .i64 size, .slice a n c] w (Holds w) := by
  have hl := hv.len
  have hc := hv.le
  have hm := hv.cap
  unfold maxLen at hm
  have HV := Lib.hid hv; clear hv
  have HL := Lib.hid hl; clear hl
  go_enter Try.func8, Try.ntmps8
  go_wp2_with fail
  refine (awake_any w).mono ?_
  rintro e w0 ⟨rfl, hb0⟩
  have hz0 := hb0.size
  have HB0 := Lib.hid hb0; clear hb0
  go_wp2_with fail
  refine (few2_any a n c L _ (HV.out.below HB0.out)).mono ?_
  rintro e w0' ⟨rfl, r, rfl, h30⟩
  cases r with
  | false =>
    go_wp2_with fail
    refine (awake_any _).mono ?_
    rintro e w3 ⟨rfl, hb3⟩
    go_wp2_with fail
    go_ret
    exact ⟨rfl, HB0.out.trans (hb3.mono HB0.out.size)⟩
  | true =>
  have hn30 : n ≤ 30 := h30 rfl
  clear h30
  go_wp2_with fail
  refine (NewDevice_any size w0 w.heap.size hz0).mono ?_
  rintro e w1 ⟨rfl, h1, hb1, hz1⟩
  have H1 := Lib.hid h1; clear h1
  have HB1 : Hid (Below w.heap.size w w1) := HB0.out.trans (hb1.mono hz0)
  clear hb1
  go_wp2_with fail
  refine (RNewDevice_any size w1 w.heap.size (by omega)).mono ?_
  rintro e w2 ⟨rfl, h2, hb2, hz2⟩
  have hgh : w0.heap.size ≠ w1.heap.size := by omega
  have HB2 : Hid (Below w.heap.size w w2) := HB1.out.trans (hb2.mono HB1.out.size)
  have HP : Hid (Dev w2 w.heap.size 63 w0.heap.size (.slice none 0 0) (DS.new size)) := H1.out.below hb2
  have HR := Lib.hid h2; clear h2
  have HA : Hid (Apart2 w0.heap.size w1.heap.size (.slice none 0 0) (.slice none 0 0)) := ⟨hgh, by simp [Value.ownBlock], by simp [Value.ownBlock], by simp [Value.ownBlock]⟩
  clear hb2 H1 hz2 hz1 hgh HB1 hz0
  generalize w0.heap.size = g at *
  generalize w1.heap.size = hb at *
  go_wp2_with fail
  refine (Open_any _ _ _ _ _ HP.out).mono ?_
  rintro e w3 ⟨dv3, h3, hm3, hp⟩
  rw [open_new] at h3 hp
  simp only [if_true] at hp
  obtain ⟨j3, a3, c3, rfl, hj3, hlj3, hdj3, hrec3⟩ := hp
  clear hrec3
  have HR3 := Lib.hid (Dev.movedP HP.out HR.out HA.out hm3).1
  have HB3 : Hid (Below w.heap.size w w3) := HB2.out.trans (hm3.below HP.out.low (fun j hj => (HP.out.own.lt j hj).1) HB2.out.size)
  have H3 := Lib.hid h3; clear h3
  have HM3 := Lib.hid hm3; clear hm3
  have HJ3 := Lib.hid hj3; clear hj3
  have HDJ3 := Lib.hid hdj3; clear hdj3
  go_wp2_with fail
  refine (ROpen_any _ _ _ _ _ HR3.out).mono ?_
  rintro e w4 ⟨rv4, h4, hm4, hp⟩
  rw [open_new] at h4 hp
  simp only [if_true] at hp
  obtain ⟨j4, a4, c4, rfl, hj4, hlj4, hdj4, hrec4⟩ := hp
  have HD4 := Lib.hid (duo_new HP.out HR.out HA.out HM3.out H3.out HJ3.out hlj3 HDJ3.out hm4 h4 hj4 hlj4 hdj4)
  have HB4 : Hid (Below w.heap.size w w4) := HB3.out.trans (hm4.below HR3.out.low (fun j hj => (HR3.out.own.lt j hj).1) HB3.out.size)
  clear hrec4 h4 hm4 hj4 hlj4 hdj4 hlj3 HP HR HA HR3 H3 HM3 HJ3 HDJ3 HB3 HB2
  go_wp2_with fail
  go_loopw [7, 10, 13] (fun jv kv i wr => ∃ k j jr : Nat, ∃ dv rv D, ∃ N : Nat, ∃ en, k ≤ n ∧ jv = .pointer (some ⟨j, 0, none⟩) ∧ kv = .pointer (some ⟨jr, 0, none⟩) ∧ i = .int .i64 k ∧ N ≤ 1048576 + k ∧ Below w.heap.size w wr ∧ Hid (Duo wr w.heap.size g hb j jr dv rv D D N en N en)) (fun _ _ i _ => n - (intOf i).toNat)
  case atStart => exact ⟨0, j3, j4, _, _, _, 0, false, Nat.zero_le _, rfl, rfl, rfl, by omega, HB4.out, HD4⟩
  case round =>
    clear HB4 HD4
    obtain ⟨k, j, jr, dv, rv, D, N, en, hk, rfl, rfl, rfl, hN, hbel, HDU⟩ := hrel
    have HB := Lib.hid hbel; clear hbel
    by_cases hlt : k < n
    · obtain ⟨s, hs⟩ : ∃ s, L[k]? = some s := ⟨_, List.getElem?_eq_getElem (by rw [HL.out]; exact hlt)⟩
      obtain ⟨b, o, x, m, q, rfl, c0w, c1w, c2w, hbs, hr0, hr1⟩ := HV.out.at_ k s hs
      have hbk : wr.heap[b]? = w.heap[b]? := HB.out.block b (cell_lt c0w)
      have c0 := (World.cell?_of_block (w := w) hbk).trans c0w
      have c1 := (World.cell?_of_block (w := w) hbk).trans c1w
      have c2 := (World.cell?_of_block (w := w) hbk).trans c2w
      clear c0w c1w c2w hbk
      have HBS := Lib.hid hbs; clear hbs
      have hmc := HBS.out.le_cap
      have hmm := HBS.out.cap_le
      unfold maxLen at hmm
      clear hs
      obtain ⟨kd, nn, dat⟩ := s
      simp only at c0 c1 c2 hr0 hr1
      simp only at HBS
      by_cases k0 : kd = 0
      · subst k0
        have halloc : Below wr.heap.size wr (wr.alloc (.cells #[.int .i64 0, .int .i64 nn, .slice x m q] 52)) := Below.allocR _ _
        have HDA := Lib.hid (HDU.out.below halloc)
        have HBA : Hid (Below w.heap.size w (wr.alloc (.cells #[.int .i64 0, .int .i64 nn, .slice x m q] 52))) := HB.out.trans (halloc.mono HB.out.size)
        have hnew : (wr.alloc (.cells #[.int .i64 0, .int .i64 nn, .slice x m q] 52)).heap[wr.heap.size]? = some (.cells #[.int .i64 0, .int .i64 nn, .slice x m q] 52 (0, 0)) := heap_alloc_new wr _
        have hzs : (wr.alloc (.cells #[.int .i64 0, .int .i64 nn, .slice x m q] 52)).heap.size = wr.heap.size + 1 := by simp
        have h_g := HDU.out.p.lt
        have h_h := HDU.out.r.lt
        have h_j := HDU.out.pj.lt
        have h_k := HDU.out.rj.lt
        have HDO : Hid (∀ j, dv.ownBlock = some j → j < wr.heap.size) := fun j h => (HDU.out.p.own.lt j h).2
        have HRO : Hid (∀ j, rv.ownBlock = some j → j < wr.heap.size) := fun j h => (HDU.out.r.own.lt j h).2
        have HNEW := Lib.hid hnew; clear hnew
        have HZS := Lib.hid hzs; clear hzs halloc
        go_wp2_with fail
        generalize wr.alloc (.cells #[.int .i64 0, .int .i64 nn, .slice x m q] 52) = wa at *
        have ca : wa.cell? ⟨wr.heap.size, 1, none⟩ = some (.int .i64 nn) := by rw [cell_of_row wa wr.heap.size 1 _ 52 (0, 0) HNEW.out]; rfl
        obtain ⟨E, hE⟩ : ∃ E, Hid (E = D.crash nn) := ⟨_, rfl⟩
        refine (Crash_any _ _ dv D _ HDA.out.p nn).mono ?_
        rintro e w3 ⟨rfl, dvx, h3, hm3⟩
        rw [← hE.out] at h3
        have hn3 : w3.heap[wr.heap.size]? = some (.cells #[.int .i64 0, .int .i64 nn, .slice x m q] 52 (0, 0)) := (hm3.block _ (by have := HZS.out; omega) (by omega) (fun e => by have := HDO.out _ e.symm; omega)).trans HNEW.out
        have c3 : w3.cell? ⟨wr.heap.size, 1, none⟩ = some (.int .i64 nn) := by rw [cell_of_row w3 wr.heap.size 1 _ 52 (0, 0) hn3]; rfl
        have HB3 : Hid (Below w.heap.size w w3) := HBA.out.trans (hm3.below HDA.out.p.low (fun j hj => (HDA.out.p.own.lt j hj).1) HBA.out.size)
        have HD3 := Lib.hid (HDA.out.movedP hm3 h3)
        clear h3 hm3 hn3
        go_wp2_with fail
        refine (RCrash_any _ _ rv D _ HD3.out.r nn).mono ?_
        rintro e w4 ⟨rfl, rvx, h4, hm4⟩
        rw [← hE.out] at h4
        have HBX : Hid (Below w.heap.size w w4) := HB3.out.trans (hm4.below HD3.out.r.low (fun j hj => (HD3.out.r.own.lt j hj).1) HB3.out.size)
        have HDX := Lib.hid (HD3.out.movedR hm4 h4)
        clear h4 hm4
        have ho : E.open.2.2 = 0 := by rw [hE.out]; exact open_crash D nn
        obtain ⟨F, hF⟩ : ∃ F, Hid (F = E.open.1) := ⟨_, rfl⟩
        obtain ⟨Z, hZ⟩ : ∃ Z, Hid (Z = E.open.2.1) := ⟨_, rfl⟩
        obtain ⟨z, hz⟩ : ∃ z, Hid (z = Z.length) := ⟨_, rfl⟩
        have HO := Lib.hid ho; clear ho
        go_wp2_with fail
        refine (Open_any _ _ _ _ _ HDX.out.p).mono ?_
        rintro e w5 ⟨dv5, h5, hm5, hp⟩
        rw [if_pos HO.out] at hp
        obtain ⟨j5, a5, c5, rfl, hj5, hlj5, hdj5, hrec5⟩ := hp
        rw [← hF.out] at h5
        rw [← hZ.out] at hj5 hrec5 ⊢
        rw [← hz.out] at hj5 hrec5 ⊢
        obtain ⟨_, _, ee, hrs5⟩ := hrec5.recs
        obtain ⟨rfl, hzz, rfl⟩ := Value.slice.inj ee
        clear ee hzz
        have HR5 := Lib.hid (Dev.movedP HDX.out.p HDX.out.r HDX.out.ap.ap hm5).1
        have HB5 : Hid (Below w.heap.size w w5) := HBX.out.trans (hm5.below HDX.out.p.low (fun j hj => (HDX.out.p.own.lt j hj).1) HBX.out.size)
        have H5 := Lib.hid h5; clear h5
        have HM5 := Lib.hid hm5; clear hm5
        have HJ5 := Lib.hid hj5; clear hj5
        have HDJ5 := Lib.hid hdj5; clear hdj5
        have HREC5 := Lib.hid hrec5; clear hrec5 hrs5
        go_wp2_with fail
        refine (ROpen_any _ _ _ _ _ HR5.out).mono ?_
        rintro e w6 ⟨rv6, h6, hm6, hp⟩
        rw [if_pos HO.out] at hp
        obtain ⟨j6, a6, c6, rfl, hj6, hlj6, hdj6, hrec6⟩ := hp
        rw [← hF.out] at h6
        rw [← hZ.out] at hj6 hrec6 ⊢
        rw [← hz.out] at hj6 hrec6 ⊢
        have hkeep : OwnRecs w6 w4.heap.size (.slice a5 z c5) Z := OwnRecs.keep HREC5.out hm6.size (fun b hb1 hb2 => hm6.block b hb2 (by have := HDX.out.r.lt; omega) (fun e => by have := (HDX.out.r.own.lt _ e.symm).2; omega))
        obtain ⟨_, _, ee, hrs5⟩ := hkeep.recs
        obtain ⟨rfl, hzz, rfl⟩ := Value.slice.inj ee
        clear ee hzz
        obtain ⟨_, _, ee, hrs6⟩ := hrec6.recs
        obtain ⟨rfl, hzz, rfl⟩ := Value.slice.inj ee
        clear ee hzz
        rw [← hz.out] at hrs5 hrs6
        have HD6 : Hid (Duo w6 w.heap.size g hb j5 j6 dv5 rv6 F F z false z false) := duo_new HDX.out.p HDX.out.r HDX.out.ap.ap HM5.out H5.out HJ5.out hlj5 HDJ5.out hm6 h6 hj6 hlj6 hdj6
        have HB6 : Hid (Below w.heap.size w w6) := HB5.out.trans (hm6.below HR5.out.low (fun j hj => (HR5.out.own.lt j hj).1) HB5.out.size)
        have hzN : z ≤ 1048576 := by
          rw [hz.out, hZ.out]
          have h1 := open_len E
          have h2 := HDX.out.p.ok.fits
          have h3 := HDX.out.p.ok.cap
          omega
        have HRS5 := Lib.hid hrs5; clear hrs5
        have HRS6 := Lib.hid hrs6; clear hrs6
        clear hkeep hrec6 h6 hm6 hj6 hlj6 hdj6 hlj5
        go_wp2_with fail
        refine (Same_any _ _ _ _ _ _ Z Z _ HRS5.out HRS6.out (by omega) (by omega)).mono ?_
        rintro e w7 ⟨rfl, z7, hz7⟩
        rw [decide_eq_true (rfl : Z = Z)]
        have hb7 : Below w6.heap.size w6 w7 := by rw [hz7]; exact below_drewN (Below.refl _ _) _
        have HD7 := Lib.hid (HD6.out.below hb7)
        have HB7 : Hid (Below w.heap.size w w7) := HB6.out.trans (hb7.mono HB6.out.size)
        clear hz7 hb7
        clear HDX HBX
        have HDX := HD7
        have HBX := HB7
        obtain ⟨ra, rc, rfl, hds⟩ := HDX.out.r.slice
        have HDS := Lib.hid hds; clear hds
        clear hr0 hr1 hmc hmm HDO HRO HDA HBA HNEW HZS ca c0 c1 c2 HBS HDU HB h_g h_h h_j h_k c3 HB3 HD3 HR5 HB5 H5 HM5 HJ5 HDJ5 HREC5 HD6 HB6 HRS5 HRS6 HD7 HB7
        go_wp2_with fail
        refine wp_region_held_drew (S := fun w' => Below w7.heap.size w7 w' ∧ w'.cell? ⟨j6, 1, none⟩ = some (.int .i64 z) ∧ w'.cell? ⟨hb, 1, none⟩ = some (.slice ra F.data.length rc) ∧ w'.cell? ⟨hb, 3, none⟩ = some (.bool F.off) ∧ (convert 23 9 (.slice ra F.data.length rc)).run Try.prog w' = .ok (.string ⟨F.data.toArray⟩) w') (by kernel_rfl) ⟨(Below.refl _ _).drew, HDX.out.rj.cell.2.1, HDX.out.r.cell.2.1, HDX.out.r.cell.2.2.2.1, run_conv_bs _ 23 9 5 Try.underlying23 Try.underlying5 Try.underlying9 ra _ rc _ HDS.out⟩ (fun hHeld => ?_)
        refine wpAnyH_take (i := 0) (v := ?_) rfl (by kernel_rfl) (by kernel_rfl) (by kernel_rfl) (fun _ _ _ h => h) (Or.inl ⟨by rfl, ?_⟩) (by assumption) ?_
        rotate_left 1
        · (intro w' hSw; (try dsimp only at hSw); obtain ⟨hs0, hs1, hs2, hs3, hs4⟩ := hSw; go_simp; try with_reducible rfl)
        try simp only [List.getElem_toArray, List.getElem_cons_zero, Act.put, List.setIfInBounds_toArray, List.set_cons_zero, List.set_cons_succ]
        refine wpAnyH_take (i := 2) (v := ?_) rfl (by kernel_rfl) (by kernel_rfl) (by kernel_rfl) (fun _ _ _ h => h) (Or.inl ⟨by rfl, ?_⟩) (by assumption) ?_
        rotate_left 1
        · (intro w' hSw; (try dsimp only at hSw); obtain ⟨hs0, hs1, hs2, hs3, hs4⟩ := hSw; go_simp; try with_reducible rfl)
        try simp only [List.getElem_toArray, List.getElem_cons_succ, List.getElem_cons_zero, Act.put, List.setIfInBounds_toArray, List.set_cons_zero, List.set_cons_succ]
        refine wpAnyH_take (i := 3) (v := ?_) rfl (by kernel_rfl) (by kernel_rfl) (by kernel_rfl) (fun _ _ _ h => h) (Or.inl ⟨by rfl, ?_⟩) (by assumption) ?_
        rotate_left 1
        · (intro w' hSw; (try dsimp only at hSw); obtain ⟨hs0, hs1, hs2, hs3, hs4⟩ := hSw; go_simp; try with_reducible rfl)
        try simp only [List.getElem_toArray, List.getElem_cons_succ, List.getElem_cons_zero, Act.put, List.setIfInBounds_toArray, List.set_cons_zero, List.set_cons_succ]
        refine wpAnyH_take (i := 4) (v := ?_) rfl (by kernel_rfl) (by kernel_rfl) (by kernel_rfl) (fun _ _ _ h => h) (Or.inl ⟨by rfl, ?_⟩) (by assumption) ?_
        rotate_left 1
        · (intro w' hSw; (try dsimp only at hSw); obtain ⟨hs0, hs1, hs2, hs3, hs4⟩ := hSw; go_simp; try with_reducible rfl)
        try simp only [List.getElem_toArray, List.getElem_cons_succ, List.getElem_cons_zero, Act.put, List.setIfInBounds_toArray, List.set_cons_zero, List.set_cons_succ]
        refine wpAnyH_take (i := 5) (v := ?_) rfl (by kernel_rfl) (by kernel_rfl) (by kernel_rfl) (fun _ _ _ h => h) (Or.inl ⟨by rfl, ?_⟩) (by assumption) ?_
        rotate_left 1
        · (intro w' hSw; (try dsimp only at hSw); obtain ⟨hs0, hs1, hs2, hs3, hs4⟩ := hSw; go_simp; try with_reducible rfl)
        try simp only [List.getElem_toArray, List.getElem_cons_succ, List.getElem_cons_zero, Act.put, List.setIfInBounds_toArray, List.set_cons_zero, List.set_cons_succ]
        refine wpAnyH_ready (rs := [1]) (by kernel_rfl) (by simp) ?_
        refine AllReadyH.cons rfl (fun K hK => ?_) AllReadyH.nil
        simp only [List.getElem_toArray, List.getElem_cons_succ, List.getElem_cons_zero]
        go_simp
        refine (Len_any _ _ _ _ _ _ (HDX.out.pj.below (Below.refl _ _).drew)).mono ?_; rintro e w' ⟨rfl, rfl⟩
        go_wp2_with fail
        refine hK.out _ _ (hHeld) (fun hHeld => ?_)
        clear hK K
        try simp only [Act.put, List.setIfInBounds_toArray, List.set_cons_zero, List.set_cons_succ]
        refine wpAnyH_take (i := 6) (v := ?_) rfl (by kernel_rfl) (by kernel_rfl) (by kernel_rfl) (fun _ _ _ h => h) (Or.inl ⟨by rfl, ?_⟩) (by assumption) ?_
        rotate_left 1
        · (intro w' hSw; (try dsimp only at hSw); obtain ⟨hs0, hs1, hs2, hs3, hs4⟩ := hSw; go_simp; try with_reducible rfl)
        try simp only [List.getElem_toArray, List.getElem_cons_succ, List.getElem_cons_zero, Act.put, List.setIfInBounds_toArray, List.set_cons_zero, List.set_cons_succ]
        refine wpAnyH_take (i := 7) (v := ?_) rfl (by kernel_rfl) (by kernel_rfl) (by kernel_rfl) (fun _ _ _ h => h) (Or.inl ⟨by rfl, ?_⟩) (by assumption) ?_
        rotate_left 1
        · (intro w' hSw; (try dsimp only at hSw); obtain ⟨hs0, hs1, hs2, hs3, hs4⟩ := hSw; go_simp; try with_reducible rfl)
        try simp only [List.getElem_toArray, List.getElem_cons_succ, List.getElem_cons_zero, Act.put, List.setIfInBounds_toArray, List.set_cons_zero, List.set_cons_succ]
        refine wpAnyH_take (i := 8) (v := ?_) rfl (by kernel_rfl) (by kernel_rfl) (by kernel_rfl) (fun _ _ _ h => h) (Or.inl ⟨by rfl, ?_⟩) (by assumption) ?_
        rotate_left 1
        · (intro w' hSw; (try dsimp only at hSw); obtain ⟨hs0, hs1, hs2, hs3, hs4⟩ := hSw; go_simp; try with_reducible rfl)
        try simp only [List.getElem_toArray, List.getElem_cons_succ, List.getElem_cons_zero, Act.put, List.setIfInBounds_toArray, List.set_cons_zero, List.set_cons_succ]
        refine wpAnyH_take (i := 11) (v := ?_) rfl (by kernel_rfl) (by kernel_rfl) (by kernel_rfl) (fun _ _ _ h => h) (Or.inl ⟨by rfl, ?_⟩) (by assumption) ?_
        rotate_left 1
        · (intro w' hSw; (try dsimp only at hSw); obtain ⟨hs0, hs1, hs2, hs3, hs4⟩ := hSw; go_simp; try with_reducible rfl)
        try simp only [List.getElem_toArray, List.getElem_cons_succ, List.getElem_cons_zero, Act.put, List.setIfInBounds_toArray, List.set_cons_zero, List.set_cons_succ]
        refine wpAnyH_take (i := 12) (v := ?_) rfl (by kernel_rfl) (by kernel_rfl) (by kernel_rfl) (fun _ _ _ h => h) (Or.inl ⟨by rfl, ?_⟩) (by assumption) ?_
        rotate_left 1
        · (intro w' hSw; (try dsimp only at hSw); obtain ⟨hs0, hs1, hs2, hs3, hs4⟩ := hSw; go_simp; try with_reducible rfl)
        try simp only [List.getElem_toArray, List.getElem_cons_succ, List.getElem_cons_zero, Act.put, List.setIfInBounds_toArray, List.set_cons_zero, List.set_cons_succ]
        refine wpAnyH_take (i := 13) (v := ?_) rfl (by kernel_rfl) (by kernel_rfl) (by kernel_rfl) (fun _ _ _ h => h) (Or.inl ⟨by rfl, ?_⟩) (by assumption) ?_
        rotate_left 1
        · (intro w' hSw; (try dsimp only at hSw); obtain ⟨hs0, hs1, hs2, hs3, hs4⟩ := hSw; go_simp; try with_reducible rfl)
        try simp only [List.getElem_toArray, List.getElem_cons_succ, List.getElem_cons_zero, Act.put, List.setIfInBounds_toArray, List.set_cons_zero, List.set_cons_succ]
        refine wpAnyH_take (i := 14) (v := ?_) rfl (by kernel_rfl) (by kernel_rfl) (by kernel_rfl) (fun _ _ _ h => h) (Or.inl ⟨by rfl, ?_⟩) (by assumption) ?_
        rotate_left 1
        · (intro w' hSw; (try dsimp only at hSw); obtain ⟨hs0, hs1, hs2, hs3, hs4⟩ := hSw; go_simp; try with_reducible rfl)
        try simp only [List.getElem_toArray, List.getElem_cons_succ, List.getElem_cons_zero, Act.put, List.setIfInBounds_toArray, List.set_cons_zero, List.set_cons_succ]
        refine wpAnyH_take (i := 15) (v := ?_) rfl (by kernel_rfl) (by kernel_rfl) (by kernel_rfl) (fun _ _ _ h => h) (Or.inl ⟨by rfl, ?_⟩) (by assumption) ?_
        rotate_left 1
        · (intro w' hSw; (try dsimp only at hSw); obtain ⟨hs0, hs1, hs2, hs3, hs4⟩ := hSw; go_simp; try with_reducible rfl)
        try simp only [List.getElem_toArray, List.getElem_cons_succ, List.getElem_cons_zero, Act.put, List.setIfInBounds_toArray, List.set_cons_zero, List.set_cons_succ]
        refine wpAnyH_ready (rs := [9]) (by kernel_rfl) (by simp) ?_
        refine AllReadyH.cons rfl (fun K hK => ?_) AllReadyH.nil
        simp only [List.getElem_toArray, List.getElem_cons_succ, List.getElem_cons_zero]
        go_simp
        refine (Bytes_any _ _ dv5 _ _ (HDX.out.p.below (Below.refl _ _).drew)).mono ?_
        rintro e wy ⟨ay, cy, rfl, hsy, hby⟩
        have hbb : Below w7.heap.size w7 wy := (Below.refl _ _).drew.trans (hby.mono (Nat.le_refl _))
        go_wp2_with fail
        refine hK.out _ _ (⟨hbb, (HDX.out.rj.below hbb).cell.2.1, (HDX.out.r.below hbb).cell.2.1, (HDX.out.r.below hbb).cell.2.2.2.1, run_conv_bs _ 23 9 5 Try.underlying23 Try.underlying5 Try.underlying9 ra _ rc _ (Sl.below HDS.out hbb)⟩) (fun hHeld => ?_)
        clear hK K
        try simp only [Act.put, List.setIfInBounds_toArray, List.set_cons_zero, List.set_cons_succ]
        have hcy : (convert 23 9 (.slice ay F.data.length cy)).run Try.prog wy = .ok (.string ⟨F.data.toArray⟩) wy := run_conv_bs _ 23 9 5 Try.underlying23 Try.underlying5 Try.underlying9 ay _ cy _ hsy
        refine wpAnyH_more (S' := fun w' => (Below w7.heap.size w7 w' ∧ w'.cell? ⟨j6, 1, none⟩ = some (.int .i64 z) ∧ w'.cell? ⟨hb, 1, none⟩ = some (.slice ra F.data.length rc) ∧ w'.cell? ⟨hb, 3, none⟩ = some (.bool F.off) ∧ (convert 23 9 (.slice ra F.data.length rc)).run Try.prog w' = .ok (.string ⟨F.data.toArray⟩) w') ∧ (convert 23 9 (.slice ay F.data.length cy)).run Try.prog w' = .ok (.string ⟨F.data.toArray⟩) w') (fun _ h => h.1) _ _ _ _ ?_
        have hHeld2 := And.intro hHeld hcy
        refine wpAnyH_take (i := 10) (v := ?_) rfl (by kernel_rfl) (by kernel_rfl) (by kernel_rfl) (fun _ _ _ h => h) (Or.inl ⟨by rfl, ?_⟩) (by assumption) ?_
        rotate_left 1
        · (intro w' hSw; (try dsimp only at hSw); obtain ⟨⟨hs0, hs1, hs2, hs3, hs4⟩, hs5⟩ := hSw; go_simp; try with_reducible rfl)
        try simp only [List.getElem_toArray, List.getElem_cons_succ, List.getElem_cons_zero, Act.put, List.setIfInBounds_toArray, List.set_cons_zero, List.set_cons_succ]
        refine wpAnyH_take (i := 16) (v := ?_) rfl (by kernel_rfl) (by kernel_rfl) (by kernel_rfl) (fun _ _ _ h => h) (Or.inl ⟨by rfl, ?_⟩) (by assumption) ?_
        rotate_left 1
        · (intro w' hSw; (try dsimp only at hSw); obtain ⟨⟨hs0, hs1, hs2, hs3, hs4⟩, hs5⟩ := hSw; go_simp; try with_reducible rfl)
        try simp only [List.getElem_toArray, List.getElem_cons_succ, List.getElem_cons_zero, Act.put, List.setIfInBounds_toArray, List.set_cons_zero, List.set_cons_succ]
        refine wpAnyH_take (i := 17) (v := ?_) rfl (by kernel_rfl) (by kernel_rfl) (by kernel_rfl) (fun _ _ _ h => h) (Or.inl ⟨by rfl, ?_⟩) (by assumption) ?_
        rotate_left 1
        · (intro w' hSw; (try dsimp only at hSw); obtain ⟨⟨hs0, hs1, hs2, hs3, hs4⟩, hs5⟩ := hSw; go_simp; try with_reducible rfl)
        try simp only [List.getElem_toArray, List.getElem_cons_succ, List.getElem_cons_zero, Act.put, List.setIfInBounds_toArray, List.set_cons_zero, List.set_cons_succ]
        refine wpAnyH_take (i := 18) (v := ?_) rfl (by kernel_rfl) (by kernel_rfl) (by kernel_rfl) (fun _ _ _ h => h) (Or.inl ⟨by rfl, ?_⟩) (by assumption) ?_
        rotate_left 1
        · (intro w' hSw; (try dsimp only at hSw); obtain ⟨⟨hs0, hs1, hs2, hs3, hs4⟩, hs5⟩ := hSw; go_simp; try with_reducible rfl)
        try simp only [List.getElem_toArray, List.getElem_cons_succ, List.getElem_cons_zero, Act.put, List.setIfInBounds_toArray, List.set_cons_zero, List.set_cons_succ]
        refine wpAnyH_take (i := 19) (v := ?_) rfl (by kernel_rfl) (by kernel_rfl) (by kernel_rfl) (fun _ _ _ h => h) (Or.inl ⟨by rfl, ?_⟩) (by assumption) ?_
        rotate_left 1
        · (intro w' hSw; (try dsimp only at hSw); obtain ⟨⟨hs0, hs1, hs2, hs3, hs4⟩, hs5⟩ := hSw; go_simp; try with_reducible rfl)
        try simp only [List.getElem_toArray, List.getElem_cons_succ, List.getElem_cons_zero, Act.put, List.setIfInBounds_toArray, List.set_cons_zero, List.set_cons_succ]
        refine wpAnyH_take (i := 21) (v := ?_) rfl (by kernel_rfl) (by kernel_rfl) (by kernel_rfl) (fun _ _ _ h => h) (Or.inl ⟨by rfl, ?_⟩) (by assumption) ?_
        rotate_left 1
        · (intro w' hSw; (try dsimp only at hSw); obtain ⟨⟨hs0, hs1, hs2, hs3, hs4⟩, hs5⟩ := hSw; go_simp; try with_reducible rfl)
        try simp only [List.getElem_toArray, List.getElem_cons_succ, List.getElem_cons_zero, Act.put, List.setIfInBounds_toArray, List.set_cons_zero, List.set_cons_succ]
        refine wpAnyH_take (i := 22) (v := ?_) rfl (by kernel_rfl) (by kernel_rfl) (by kernel_rfl) (fun _ _ _ h => h) (Or.inl ⟨by rfl, ?_⟩) (by assumption) ?_
        rotate_left 1
        · (intro w' hSw; (try dsimp only at hSw); obtain ⟨⟨hs0, hs1, hs2, hs3, hs4⟩, hs5⟩ := hSw; go_simp; try with_reducible rfl)
        try simp only [List.getElem_toArray, List.getElem_cons_succ, List.getElem_cons_zero, Act.put, List.setIfInBounds_toArray, List.set_cons_zero, List.set_cons_succ]
        refine wpAnyH_take (i := 23) (v := ?_) rfl (by kernel_rfl) (by kernel_rfl) (by kernel_rfl) (fun _ _ _ h => h) (Or.inl ⟨by rfl, ?_⟩) (by assumption) ?_
        rotate_left 1
        · (intro w' hSw; (try dsimp only at hSw); obtain ⟨⟨hs0, hs1, hs2, hs3, hs4⟩, hs5⟩ := hSw; go_simp; try with_reducible rfl)
        try simp only [List.getElem_toArray, List.getElem_cons_succ, List.getElem_cons_zero, Act.put, List.setIfInBounds_toArray, List.set_cons_zero, List.set_cons_succ]
        refine wpAnyH_take (i := 24) (v := ?_) rfl (by kernel_rfl) (by kernel_rfl) (by kernel_rfl) (fun _ _ _ h => h) (Or.inl ⟨by rfl, ?_⟩) (by assumption) ?_
        rotate_left 1
        · (intro w' hSw; (try dsimp only at hSw); obtain ⟨⟨hs0, hs1, hs2, hs3, hs4⟩, hs5⟩ := hSw; go_simp; try with_reducible rfl)
        try simp only [List.getElem_toArray, List.getElem_cons_succ, List.getElem_cons_zero, Act.put, List.setIfInBounds_toArray, List.set_cons_zero, List.set_cons_succ]
        refine wpAnyH_ready (rs := [20]) (by kernel_rfl) (by simp) ?_
        refine AllReadyH.cons rfl (fun K hK => ?_) AllReadyH.nil
        simp only [List.getElem_toArray, List.getElem_cons_succ, List.getElem_cons_zero]
        go_simp
        refine (Down_any _ _ dv5 _ _ (HDX.out.p.below hbb)).mono ?_; rintro e w' ⟨rfl, rfl⟩
        go_wp2_with fail
        refine hK.out _ _ (hHeld2) (fun hHeld => ?_)
        clear hK K
        try simp only [Act.put, List.setIfInBounds_toArray, List.set_cons_zero, List.set_cons_succ]
        refine wpAnyH_take (i := 25) (v := ?_) rfl (by kernel_rfl) (by kernel_rfl) (by kernel_rfl) (fun _ _ _ h => h) (Or.inl ⟨by rfl, ?_⟩) (by assumption) ?_
        rotate_left 1
        · (intro w' hSw; (try dsimp only at hSw); obtain ⟨⟨hs0, hs1, hs2, hs3, hs4⟩, hs5⟩ := hSw; go_simp; try with_reducible rfl)
        try simp only [List.getElem_toArray, List.getElem_cons_succ, List.getElem_cons_zero, Act.put, List.setIfInBounds_toArray, List.set_cons_zero, List.set_cons_succ]
        refine wpAnyH_take (i := 26) (v := ?_) rfl (by kernel_rfl) (by kernel_rfl) (by kernel_rfl) (fun _ _ _ h => h) (Or.inl ⟨by rfl, ?_⟩) (by assumption) ?_
        rotate_left 1
        · (intro w' hSw; (try dsimp only at hSw); obtain ⟨⟨hs0, hs1, hs2, hs3, hs4⟩, hs5⟩ := hSw; go_simp; try with_reducible rfl)
        try simp only [List.getElem_toArray, List.getElem_cons_succ, List.getElem_cons_zero, Act.put, List.setIfInBounds_toArray, List.set_cons_zero, List.set_cons_succ]
        refine wpAnyH_done (by kernel_rfl) ?_ _
        clear hHeld hHeld2 hsy hby hcy
        go_wp2_with fail
        go_roundw
        case rel => exact ⟨k + 1, j5, j6, dv5, .slice ra F.data.length rc, F, z, false, by omega, rfl, rfl, by go_num, by omega, HBX.out.trans (hbb.mono HBX.out.size), HDX.out.below hbb⟩
        case measure => simp [intOf]; omega
      by_cases k2 : kd = 2
      · subst k2
        have halloc : Below wr.heap.size wr (wr.alloc (.cells #[.int .i64 2, .int .i64 nn, .slice x m q] 52)) := Below.allocR _ _
        have HDA := Lib.hid (HDU.out.below halloc)
        have HBA : Hid (Below w.heap.size w (wr.alloc (.cells #[.int .i64 2, .int .i64 nn, .slice x m q] 52))) := HB.out.trans (halloc.mono HB.out.size)
        have hnew : (wr.alloc (.cells #[.int .i64 2, .int .i64 nn, .slice x m q] 52)).heap[wr.heap.size]? = some (.cells #[.int .i64 2, .int .i64 nn, .slice x m q] 52 (0, 0)) := heap_alloc_new wr _
        have hzs : (wr.alloc (.cells #[.int .i64 2, .int .i64 nn, .slice x m q] 52)).heap.size = wr.heap.size + 1 := by simp
        have h_g := HDU.out.p.lt
        have h_h := HDU.out.r.lt
        have h_j := HDU.out.pj.lt
        have h_k := HDU.out.rj.lt
        have HDO : Hid (∀ j, dv.ownBlock = some j → j < wr.heap.size) := fun j h => (HDU.out.p.own.lt j h).2
        have HRO : Hid (∀ j, rv.ownBlock = some j → j < wr.heap.size) := fun j h => (HDU.out.r.own.lt j h).2
        have HNEW := Lib.hid hnew; clear hnew
        have HZS := Lib.hid hzs; clear hzs halloc
        go_wp2_with fail
        generalize wr.alloc (.cells #[.int .i64 2, .int .i64 nn, .slice x m q] 52) = wa at *
        have ca : wa.cell? ⟨wr.heap.size, 1, none⟩ = some (.int .i64 nn) := by rw [cell_of_row wa wr.heap.size 1 _ 52 (0, 0) HNEW.out]; rfl
        obtain ⟨E, hE⟩ : ∃ E, Hid (E = D.crash nn) := ⟨_, rfl⟩
        refine (Crash_any _ _ dv D _ HDA.out.p nn).mono ?_
        rintro e w3 ⟨rfl, dvx, h3, hm3⟩
        rw [← hE.out] at h3
        have hn3 : w3.heap[wr.heap.size]? = some (.cells #[.int .i64 2, .int .i64 nn, .slice x m q] 52 (0, 0)) := (hm3.block _ (by have := HZS.out; omega) (by omega) (fun e => by have := HDO.out _ e.symm; omega)).trans HNEW.out
        have c3 : w3.cell? ⟨wr.heap.size, 1, none⟩ = some (.int .i64 nn) := by rw [cell_of_row w3 wr.heap.size 1 _ 52 (0, 0) hn3]; rfl
        have HB3 : Hid (Below w.heap.size w w3) := HBA.out.trans (hm3.below HDA.out.p.low (fun j hj => (HDA.out.p.own.lt j hj).1) HBA.out.size)
        have HD3 := Lib.hid (HDA.out.movedP hm3 h3)
        clear h3 hm3 hn3
        go_wp2_with fail
        refine (RCrash_any _ _ rv D _ HD3.out.r nn).mono ?_
        rintro e w4 ⟨rfl, rvx, h4, hm4⟩
        rw [← hE.out] at h4
        have HBX : Hid (Below w.heap.size w w4) := HB3.out.trans (hm4.below HD3.out.r.low (fun j hj => (HD3.out.r.own.lt j hj).1) HB3.out.size)
        have HDX := Lib.hid (HD3.out.movedR hm4 h4)
        clear h4 hm4
        have ho : E.open.2.2 = 0 := by rw [hE.out]; exact open_crash D nn
        obtain ⟨F, hF⟩ : ∃ F, Hid (F = E.open.1) := ⟨_, rfl⟩
        obtain ⟨Z, hZ⟩ : ∃ Z, Hid (Z = E.open.2.1) := ⟨_, rfl⟩
        obtain ⟨z, hz⟩ : ∃ z, Hid (z = Z.length) := ⟨_, rfl⟩
        have HO := Lib.hid ho; clear ho
        go_wp2_with fail
        refine (Open_any _ _ _ _ _ HDX.out.p).mono ?_
        rintro e w5 ⟨dv5, h5, hm5, hp⟩
        rw [if_pos HO.out] at hp
        obtain ⟨j5, a5, c5, rfl, hj5, hlj5, hdj5, hrec5⟩ := hp
        rw [← hF.out] at h5
        rw [← hZ.out] at hj5 hrec5 ⊢
        rw [← hz.out] at hj5 hrec5 ⊢
        obtain ⟨_, _, ee, hrs5⟩ := hrec5.recs
        obtain ⟨rfl, hzz, rfl⟩ := Value.slice.inj ee
        clear ee hzz
        have HR5 := Lib.hid (Dev.movedP HDX.out.p HDX.out.r HDX.out.ap.ap hm5).1
        have HB5 : Hid (Below w.heap.size w w5) := HBX.out.trans (hm5.below HDX.out.p.low (fun j hj => (HDX.out.p.own.lt j hj).1) HBX.out.size)
        have H5 := Lib.hid h5; clear h5
        have HM5 := Lib.hid hm5; clear hm5
        have HJ5 := Lib.hid hj5; clear hj5
        have HDJ5 := Lib.hid hdj5; clear hdj5
        have HREC5 := Lib.hid hrec5; clear hrec5 hrs5
        go_wp2_with fail
        refine (ROpen_any _ _ _ _ _ HR5.out).mono ?_
        rintro e w6 ⟨rv6, h6, hm6, hp⟩
        rw [if_pos HO.out] at hp
        obtain ⟨j6, a6, c6, rfl, hj6, hlj6, hdj6, hrec6⟩ := hp
        rw [← hF.out] at h6
        rw [← hZ.out] at hj6 hrec6 ⊢
        rw [← hz.out] at hj6 hrec6 ⊢
        have hkeep : OwnRecs w6 w4.heap.size (.slice a5 z c5) Z := OwnRecs.keep HREC5.out hm6.size (fun b hb1 hb2 => hm6.block b hb2 (by have := HDX.out.r.lt; omega) (fun e => by have := (HDX.out.r.own.lt _ e.symm).2; omega))
        obtain ⟨_, _, ee, hrs5⟩ := hkeep.recs
        obtain ⟨rfl, hzz, rfl⟩ := Value.slice.inj ee
        clear ee hzz
        obtain ⟨_, _, ee, hrs6⟩ := hrec6.recs
        obtain ⟨rfl, hzz, rfl⟩ := Value.slice.inj ee
        clear ee hzz
        rw [← hz.out] at hrs5 hrs6
        have HD6 : Hid (Duo w6 w.heap.size g hb j5 j6 dv5 rv6 F F z false z false) := duo_new HDX.out.p HDX.out.r HDX.out.ap.ap HM5.out H5.out HJ5.out hlj5 HDJ5.out hm6 h6 hj6 hlj6 hdj6
        have HB6 : Hid (Below w.heap.size w w6) := HB5.out.trans (hm6.below HR5.out.low (fun j hj => (HR5.out.own.lt j hj).1) HB5.out.size)
        have hzN : z ≤ 1048576 := by
          rw [hz.out, hZ.out]
          have h1 := open_len E
          have h2 := HDX.out.p.ok.fits
          have h3 := HDX.out.p.ok.cap
          omega
        have HRS5 := Lib.hid hrs5; clear hrs5
        have HRS6 := Lib.hid hrs6; clear hrs6
        clear hkeep hrec6 h6 hm6 hj6 hlj6 hdj6 hlj5
        go_wp2_with fail
        refine (Same_any _ _ _ _ _ _ Z Z _ HRS5.out HRS6.out (by omega) (by omega)).mono ?_
        rintro e w7 ⟨rfl, z7, hz7⟩
        rw [decide_eq_true (rfl : Z = Z)]
        have hb7 : Below w6.heap.size w6 w7 := by rw [hz7]; exact below_drewN (Below.refl _ _) _
        have HD7 := Lib.hid (HD6.out.below hb7)
        have HB7 : Hid (Below w.heap.size w w7) := HB6.out.trans (hb7.mono HB6.out.size)
        clear hz7 hb7
        clear HDX HBX
        have HDX := HD7
        have HBX := HB7
        obtain ⟨ra, rc, rfl, hds⟩ := HDX.out.r.slice
        have HDS := Lib.hid hds; clear hds
        clear hr0 hr1 hmc hmm HDO HRO HDA HBA HNEW HZS ca c0 c1 c2 HBS HDU HB h_g h_h h_j h_k c3 HB3 HD3 HR5 HB5 H5 HM5 HJ5 HDJ5 HREC5 HD6 HB6 HRS5 HRS6 HD7 HB7
        go_wp2_with fail
        refine wp_region_held_drew (S := fun w' => Below w7.heap.size w7 w' ∧ w'.cell? ⟨j6, 1, none⟩ = some (.int .i64 z) ∧ w'.cell? ⟨hb, 1, none⟩ = some (.slice ra F.data.length rc) ∧ w'.cell? ⟨hb, 3, none⟩ = some (.bool F.off) ∧ (convert 23 9 (.slice ra F.data.length rc)).run Try.prog w' = .ok (.string ⟨F.data.toArray⟩) w') (by kernel_rfl) ⟨(Below.refl _ _).drew, HDX.out.rj.cell.2.1, HDX.out.r.cell.2.1, HDX.out.r.cell.2.2.2.1, run_conv_bs _ 23 9 5 Try.underlying23 Try.underlying5 Try.underlying9 ra _ rc _ HDS.out⟩ (fun hHeld => ?_)
        refine wpAnyH_take (i := 0) (v := ?_) rfl (by kernel_rfl) (by kernel_rfl) (by kernel_rfl) (fun _ _ _ h => h) (Or.inl ⟨by rfl, ?_⟩) (by assumption) ?_
        rotate_left 1
        · (intro w' hSw; (try dsimp only at hSw); obtain ⟨hs0, hs1, hs2, hs3, hs4⟩ := hSw; go_simp; try with_reducible rfl)
        try simp only [List.getElem_toArray, List.getElem_cons_zero, Act.put, List.setIfInBounds_toArray, List.set_cons_zero, List.set_cons_succ]
        refine wpAnyH_take (i := 2) (v := ?_) rfl (by kernel_rfl) (by kernel_rfl) (by kernel_rfl) (fun _ _ _ h => h) (Or.inl ⟨by rfl, ?_⟩) (by assumption) ?_
        rotate_left 1
        · (intro w' hSw; (try dsimp only at hSw); obtain ⟨hs0, hs1, hs2, hs3, hs4⟩ := hSw; go_simp; try with_reducible rfl)
        try simp only [List.getElem_toArray, List.getElem_cons_succ, List.getElem_cons_zero, Act.put, List.setIfInBounds_toArray, List.set_cons_zero, List.set_cons_succ]
        refine wpAnyH_take (i := 3) (v := ?_) rfl (by kernel_rfl) (by kernel_rfl) (by kernel_rfl) (fun _ _ _ h => h) (Or.inl ⟨by rfl, ?_⟩) (by assumption) ?_
        rotate_left 1
        · (intro w' hSw; (try dsimp only at hSw); obtain ⟨hs0, hs1, hs2, hs3, hs4⟩ := hSw; go_simp; try with_reducible rfl)
        try simp only [List.getElem_toArray, List.getElem_cons_succ, List.getElem_cons_zero, Act.put, List.setIfInBounds_toArray, List.set_cons_zero, List.set_cons_succ]
        refine wpAnyH_take (i := 4) (v := ?_) rfl (by kernel_rfl) (by kernel_rfl) (by kernel_rfl) (fun _ _ _ h => h) (Or.inl ⟨by rfl, ?_⟩) (by assumption) ?_
        rotate_left 1
        · (intro w' hSw; (try dsimp only at hSw); obtain ⟨hs0, hs1, hs2, hs3, hs4⟩ := hSw; go_simp; try with_reducible rfl)
        try simp only [List.getElem_toArray, List.getElem_cons_succ, List.getElem_cons_zero, Act.put, List.setIfInBounds_toArray, List.set_cons_zero, List.set_cons_succ]
        refine wpAnyH_take (i := 5) (v := ?_) rfl (by kernel_rfl) (by kernel_rfl) (by kernel_rfl) (fun _ _ _ h => h) (Or.inl ⟨by rfl, ?_⟩) (by assumption) ?_
        rotate_left 1
        · (intro w' hSw; (try dsimp only at hSw); obtain ⟨hs0, hs1, hs2, hs3, hs4⟩ := hSw; go_simp; try with_reducible rfl)
        try simp only [List.getElem_toArray, List.getElem_cons_succ, List.getElem_cons_zero, Act.put, List.setIfInBounds_toArray, List.set_cons_zero, List.set_cons_succ]
        refine wpAnyH_ready (rs := [1]) (by kernel_rfl) (by simp) ?_
        refine AllReadyH.cons rfl (fun K hK => ?_) AllReadyH.nil
        simp only [List.getElem_toArray, List.getElem_cons_succ, List.getElem_cons_zero]
        go_simp
        refine (Len_any _ _ _ _ _ _ (HDX.out.pj.below (Below.refl _ _).drew)).mono ?_; rintro e w' ⟨rfl, rfl⟩
        go_wp2_with fail
        refine hK.out _ _ (hHeld) (fun hHeld => ?_)
        clear hK K
        try simp only [Act.put, List.setIfInBounds_toArray, List.set_cons_zero, List.set_cons_succ]
        refine wpAnyH_take (i := 6) (v := ?_) rfl (by kernel_rfl) (by kernel_rfl) (by kernel_rfl) (fun _ _ _ h => h) (Or.inl ⟨by rfl, ?_⟩) (by assumption) ?_
        rotate_left 1
        · (intro w' hSw; (try dsimp only at hSw); obtain ⟨hs0, hs1, hs2, hs3, hs4⟩ := hSw; go_simp; try with_reducible rfl)
        try simp only [List.getElem_toArray, List.getElem_cons_succ, List.getElem_cons_zero, Act.put, List.setIfInBounds_toArray, List.set_cons_zero, List.set_cons_succ]
        refine wpAnyH_take (i := 7) (v := ?_) rfl (by kernel_rfl) (by kernel_rfl) (by kernel_rfl) (fun _ _ _ h => h) (Or.inl ⟨by rfl, ?_⟩) (by assumption) ?_
        rotate_left 1
        · (intro w' hSw; (try dsimp only at hSw); obtain ⟨hs0, hs1, hs2, hs3, hs4⟩ := hSw; go_simp; try with_reducible rfl)
        try simp only [List.getElem_toArray, List.getElem_cons_succ, List.getElem_cons_zero, Act.put, List.setIfInBounds_toArray, List.set_cons_zero, List.set_cons_succ]
        refine wpAnyH_take (i := 8) (v := ?_) rfl (by kernel_rfl) (by kernel_rfl) (by kernel_rfl) (fun _ _ _ h => h) (Or.inl ⟨by rfl, ?_⟩) (by assumption) ?_
        rotate_left 1
        · (intro w' hSw; (try dsimp only at hSw); obtain ⟨hs0, hs1, hs2, hs3, hs4⟩ := hSw; go_simp; try with_reducible rfl)
        try simp only [List.getElem_toArray, List.getElem_cons_succ, List.getElem_cons_zero, Act.put, List.setIfInBounds_toArray, List.set_cons_zero, List.set_cons_succ]
        refine wpAnyH_take (i := 11) (v := ?_) rfl (by kernel_rfl) (by kernel_rfl) (by kernel_rfl) (fun _ _ _ h => h) (Or.inl ⟨by rfl, ?_⟩) (by assumption) ?_
        rotate_left 1
        · (intro w' hSw; (try dsimp only at hSw); obtain ⟨hs0, hs1, hs2, hs3, hs4⟩ := hSw; go_simp; try with_reducible rfl)
        try simp only [List.getElem_toArray, List.getElem_cons_succ, List.getElem_cons_zero, Act.put, List.setIfInBounds_toArray, List.set_cons_zero, List.set_cons_succ]
        refine wpAnyH_take (i := 12) (v := ?_) rfl (by kernel_rfl) (by kernel_rfl) (by kernel_rfl) (fun _ _ _ h => h) (Or.inl ⟨by rfl, ?_⟩) (by assumption) ?_
        rotate_left 1
        · (intro w' hSw; (try dsimp only at hSw); obtain ⟨hs0, hs1, hs2, hs3, hs4⟩ := hSw; go_simp; try with_reducible rfl)
        try simp only [List.getElem_toArray, List.getElem_cons_succ, List.getElem_cons_zero, Act.put, List.setIfInBounds_toArray, List.set_cons_zero, List.set_cons_succ]
        refine wpAnyH_take (i := 13) (v := ?_) rfl (by kernel_rfl) (by kernel_rfl) (by kernel_rfl) (fun _ _ _ h => h) (Or.inl ⟨by rfl, ?_⟩) (by assumption) ?_
        rotate_left 1
        · (intro w' hSw; (try dsimp only at hSw); obtain ⟨hs0, hs1, hs2, hs3, hs4⟩ := hSw; go_simp; try with_reducible rfl)
        try simp only [List.getElem_toArray, List.getElem_cons_succ, List.getElem_cons_zero, Act.put, List.setIfInBounds_toArray, List.set_cons_zero, List.set_cons_succ]
        refine wpAnyH_take (i := 14) (v := ?_) rfl (by kernel_rfl) (by kernel_rfl) (by kernel_rfl) (fun _ _ _ h => h) (Or.inl ⟨by rfl, ?_⟩) (by assumption) ?_
        rotate_left 1
        · (intro w' hSw; (try dsimp only at hSw); obtain ⟨hs0, hs1, hs2, hs3, hs4⟩ := hSw; go_simp; try with_reducible rfl)
        try simp only [List.getElem_toArray, List.getElem_cons_succ, List.getElem_cons_zero, Act.put, List.setIfInBounds_toArray, List.set_cons_zero, List.set_cons_succ]
        refine wpAnyH_take (i := 15) (v := ?_) rfl (by kernel_rfl) (by kernel_rfl) (by kernel_rfl) (fun _ _ _ h => h) (Or.inl ⟨by rfl, ?_⟩) (by assumption) ?_
        rotate_left 1
        · (intro w' hSw; (try dsimp only at hSw); obtain ⟨hs0, hs1, hs2, hs3, hs4⟩ := hSw; go_simp; try with_reducible rfl)
        try simp only [List.getElem_toArray, List.getElem_cons_succ, List.getElem_cons_zero, Act.put, List.setIfInBounds_toArray, List.set_cons_zero, List.set_cons_succ]
        refine wpAnyH_ready (rs := [9]) (by kernel_rfl) (by simp) ?_
        refine AllReadyH.cons rfl (fun K hK => ?_) AllReadyH.nil
        simp only [List.getElem_toArray, List.getElem_cons_succ, List.getElem_cons_zero]
        go_simp
        refine (Bytes_any _ _ dv5 _ _ (HDX.out.p.below (Below.refl _ _).drew)).mono ?_
        rintro e wy ⟨ay, cy, rfl, hsy, hby⟩
        have hbb : Below w7.heap.size w7 wy := (Below.refl _ _).drew.trans (hby.mono (Nat.le_refl _))
        go_wp2_with fail
        refine hK.out _ _ (⟨hbb, (HDX.out.rj.below hbb).cell.2.1, (HDX.out.r.below hbb).cell.2.1, (HDX.out.r.below hbb).cell.2.2.2.1, run_conv_bs _ 23 9 5 Try.underlying23 Try.underlying5 Try.underlying9 ra _ rc _ (Sl.below HDS.out hbb)⟩) (fun hHeld => ?_)
        clear hK K
        try simp only [Act.put, List.setIfInBounds_toArray, List.set_cons_zero, List.set_cons_succ]
        have hcy : (convert 23 9 (.slice ay F.data.length cy)).run Try.prog wy = .ok (.string ⟨F.data.toArray⟩) wy := run_conv_bs _ 23 9 5 Try.underlying23 Try.underlying5 Try.underlying9 ay _ cy _ hsy
        refine wpAnyH_more (S' := fun w' => (Below w7.heap.size w7 w' ∧ w'.cell? ⟨j6, 1, none⟩ = some (.int .i64 z) ∧ w'.cell? ⟨hb, 1, none⟩ = some (.slice ra F.data.length rc) ∧ w'.cell? ⟨hb, 3, none⟩ = some (.bool F.off) ∧ (convert 23 9 (.slice ra F.data.length rc)).run Try.prog w' = .ok (.string ⟨F.data.toArray⟩) w') ∧ (convert 23 9 (.slice ay F.data.length cy)).run Try.prog w' = .ok (.string ⟨F.data.toArray⟩) w') (fun _ h => h.1) _ _ _ _ ?_
        have hHeld2 := And.intro hHeld hcy
        refine wpAnyH_take (i := 10) (v := ?_) rfl (by kernel_rfl) (by kernel_rfl) (by kernel_rfl) (fun _ _ _ h => h) (Or.inl ⟨by rfl, ?_⟩) (by assumption) ?_
        rotate_left 1
        · (intro w' hSw; (try dsimp only at hSw); obtain ⟨⟨hs0, hs1, hs2, hs3, hs4⟩, hs5⟩ := hSw; go_simp; try with_reducible rfl)
        try simp only [List.getElem_toArray, List.getElem_cons_succ, List.getElem_cons_zero, Act.put, List.setIfInBounds_toArray, List.set_cons_zero, List.set_cons_succ]
        refine wpAnyH_take (i := 16) (v := ?_) rfl (by kernel_rfl) (by kernel_rfl) (by kernel_rfl) (fun _ _ _ h => h) (Or.inl ⟨by rfl, ?_⟩) (by assumption) ?_
        rotate_left 1
        · (intro w' hSw; (try dsimp only at hSw); obtain ⟨⟨hs0, hs1, hs2, hs3, hs4⟩, hs5⟩ := hSw; go_simp; try with_reducible rfl)
        try simp only [List.getElem_toArray, List.getElem_cons_succ, List.getElem_cons_zero, Act.put, List.setIfInBounds_toArray, List.set_cons_zero, List.set_cons_succ]
        refine wpAnyH_take (i := 17) (v := ?_) rfl (by kernel_rfl) (by kernel_rfl) (by kernel_rfl) (fun _ _ _ h => h) (Or.inl ⟨by rfl, ?_⟩) (by assumption) ?_
        rotate_left 1
        · (intro w' hSw; (try dsimp only at hSw); obtain ⟨⟨hs0, hs1, hs2, hs3, hs4⟩, hs5⟩ := hSw; go_simp; try with_reducible rfl)
        try simp only [List.getElem_toArray, List.getElem_cons_succ, List.getElem_cons_zero, Act.put, List.setIfInBounds_toArray, List.set_cons_zero, List.set_cons_succ]
        refine wpAnyH_take (i := 18) (v := ?_) rfl (by kernel_rfl) (by kernel_rfl) (by kernel_rfl) (fun _ _ _ h => h) (Or.inl ⟨by rfl, ?_⟩) (by assumption) ?_
        rotate_left 1
        · (intro w' hSw; (try dsimp only at hSw); obtain ⟨⟨hs0, hs1, hs2, hs3, hs4⟩, hs5⟩ := hSw; go_simp; try with_reducible rfl)
        try simp only [List.getElem_toArray, List.getElem_cons_succ, List.getElem_cons_zero, Act.put, List.setIfInBounds_toArray, List.set_cons_zero, List.set_cons_succ]
        refine wpAnyH_take (i := 19) (v := ?_) rfl (by kernel_rfl) (by kernel_rfl) (by kernel_rfl) (fun _ _ _ h => h) (Or.inl ⟨by rfl, ?_⟩) (by assumption) ?_
        rotate_left 1
        · (intro w' hSw; (try dsimp only at hSw); obtain ⟨⟨hs0, hs1, hs2, hs3, hs4⟩, hs5⟩ := hSw; go_simp; try with_reducible rfl)
        try simp only [List.getElem_toArray, List.getElem_cons_succ, List.getElem_cons_zero, Act.put, List.setIfInBounds_toArray, List.set_cons_zero, List.set_cons_succ]
        refine wpAnyH_take (i := 21) (v := ?_) rfl (by kernel_rfl) (by kernel_rfl) (by kernel_rfl) (fun _ _ _ h => h) (Or.inl ⟨by rfl, ?_⟩) (by assumption) ?_
        rotate_left 1
        · (intro w' hSw; (try dsimp only at hSw); obtain ⟨⟨hs0, hs1, hs2, hs3, hs4⟩, hs5⟩ := hSw; go_simp; try with_reducible rfl)
        try simp only [List.getElem_toArray, List.getElem_cons_succ, List.getElem_cons_zero, Act.put, List.setIfInBounds_toArray, List.set_cons_zero, List.set_cons_succ]
        refine wpAnyH_take (i := 22) (v := ?_) rfl (by kernel_rfl) (by kernel_rfl) (by kernel_rfl) (fun _ _ _ h => h) (Or.inl ⟨by rfl, ?_⟩) (by assumption) ?_
        rotate_left 1
        · (intro w' hSw; (try dsimp only at hSw); obtain ⟨⟨hs0, hs1, hs2, hs3, hs4⟩, hs5⟩ := hSw; go_simp; try with_reducible rfl)
        try simp only [List.getElem_toArray, List.getElem_cons_succ, List.getElem_cons_zero, Act.put, List.setIfInBounds_toArray, List.set_cons_zero, List.set_cons_succ]
        refine wpAnyH_take (i := 23) (v := ?_) rfl (by kernel_rfl) (by kernel_rfl) (by kernel_rfl) (fun _ _ _ h => h) (Or.inl ⟨by rfl, ?_⟩) (by assumption) ?_
        rotate_left 1
        · (intro w' hSw; (try dsimp only at hSw); obtain ⟨⟨hs0, hs1, hs2, hs3, hs4⟩, hs5⟩ := hSw; go_simp; try with_reducible rfl)
        try simp only [List.getElem_toArray, List.getElem_cons_succ, List.getElem_cons_zero, Act.put, List.setIfInBounds_toArray, List.set_cons_zero, List.set_cons_succ]
        refine wpAnyH_take (i := 24) (v := ?_) rfl (by kernel_rfl) (by kernel_rfl) (by kernel_rfl) (fun _ _ _ h => h) (Or.inl ⟨by rfl, ?_⟩) (by assumption) ?_
        rotate_left 1
        · (intro w' hSw; (try dsimp only at hSw); obtain ⟨⟨hs0, hs1, hs2, hs3, hs4⟩, hs5⟩ := hSw; go_simp; try with_reducible rfl)
        try simp only [List.getElem_toArray, List.getElem_cons_succ, List.getElem_cons_zero, Act.put, List.setIfInBounds_toArray, List.set_cons_zero, List.set_cons_succ]
        refine wpAnyH_ready (rs := [20]) (by kernel_rfl) (by simp) ?_
        refine AllReadyH.cons rfl (fun K hK => ?_) AllReadyH.nil
        simp only [List.getElem_toArray, List.getElem_cons_succ, List.getElem_cons_zero]
        go_simp
        refine (Down_any _ _ dv5 _ _ (HDX.out.p.below hbb)).mono ?_; rintro e w' ⟨rfl, rfl⟩
        go_wp2_with fail
        refine hK.out _ _ (hHeld2) (fun hHeld => ?_)
        clear hK K
        try simp only [Act.put, List.setIfInBounds_toArray, List.set_cons_zero, List.set_cons_succ]
        refine wpAnyH_take (i := 25) (v := ?_) rfl (by kernel_rfl) (by kernel_rfl) (by kernel_rfl) (fun _ _ _ h => h) (Or.inl ⟨by rfl, ?_⟩) (by assumption) ?_
        rotate_left 1
        · (intro w' hSw; (try dsimp only at hSw); obtain ⟨⟨hs0, hs1, hs2, hs3, hs4⟩, hs5⟩ := hSw; go_simp; try with_reducible rfl)
        try simp only [List.getElem_toArray, List.getElem_cons_succ, List.getElem_cons_zero, Act.put, List.setIfInBounds_toArray, List.set_cons_zero, List.set_cons_succ]
        refine wpAnyH_take (i := 26) (v := ?_) rfl (by kernel_rfl) (by kernel_rfl) (by kernel_rfl) (fun _ _ _ h => h) (Or.inl ⟨by rfl, ?_⟩) (by assumption) ?_
        rotate_left 1
        · (intro w' hSw; (try dsimp only at hSw); obtain ⟨⟨hs0, hs1, hs2, hs3, hs4⟩, hs5⟩ := hSw; go_simp; try with_reducible rfl)
        try simp only [List.getElem_toArray, List.getElem_cons_succ, List.getElem_cons_zero, Act.put, List.setIfInBounds_toArray, List.set_cons_zero, List.set_cons_succ]
        refine wpAnyH_done (by kernel_rfl) ?_ _
        clear hHeld hHeld2 hsy hby hcy
        go_wp2_with fail
        go_roundw
        case rel => exact ⟨k + 1, j5, j6, dv5, .slice ra F.data.length rc, F, z, false, by omega, rfl, rfl, by go_num, by omega, HBX.out.trans (hbb.mono HBX.out.size), HDX.out.below hbb⟩
        case measure => simp [intOf]; omega
      by_cases k3 : kd = 3
      · subst k3
        have halloc : Below wr.heap.size wr (wr.alloc (.cells #[.int .i64 3, .int .i64 nn, .slice x m q] 52)) := Below.allocR _ _
        have HDA := Lib.hid (HDU.out.below halloc)
        have HBA : Hid (Below w.heap.size w (wr.alloc (.cells #[.int .i64 3, .int .i64 nn, .slice x m q] 52))) := HB.out.trans (halloc.mono HB.out.size)
        have hnew : (wr.alloc (.cells #[.int .i64 3, .int .i64 nn, .slice x m q] 52)).heap[wr.heap.size]? = some (.cells #[.int .i64 3, .int .i64 nn, .slice x m q] 52 (0, 0)) := heap_alloc_new wr _
        have hzs : (wr.alloc (.cells #[.int .i64 3, .int .i64 nn, .slice x m q] 52)).heap.size = wr.heap.size + 1 := by simp
        have h_g := HDU.out.p.lt
        have h_h := HDU.out.r.lt
        have h_j := HDU.out.pj.lt
        have h_k := HDU.out.rj.lt
        have HDO : Hid (∀ j, dv.ownBlock = some j → j < wr.heap.size) := fun j h => (HDU.out.p.own.lt j h).2
        have HRO : Hid (∀ j, rv.ownBlock = some j → j < wr.heap.size) := fun j h => (HDU.out.r.own.lt j h).2
        have HNEW := Lib.hid hnew; clear hnew
        have HZS := Lib.hid hzs; clear hzs halloc
        go_wp2_with fail
        generalize wr.alloc (.cells #[.int .i64 3, .int .i64 nn, .slice x m q] 52) = wa at *
        have ca : wa.cell? ⟨wr.heap.size, 1, none⟩ = some (.int .i64 nn) := by rw [cell_of_row wa wr.heap.size 1 _ 52 (0, 0) HNEW.out]; rfl
        obtain ⟨E, hE⟩ : ∃ E, Hid (E = D.fail nn) := ⟨_, rfl⟩
        refine (Fail_any _ _ dv D _ HDA.out.p nn hr1.2).mono ?_
        rintro e w3 ⟨rfl, dvx, h3, hm3⟩
        rw [← hE.out] at h3
        have hn3 : w3.heap[wr.heap.size]? = some (.cells #[.int .i64 3, .int .i64 nn, .slice x m q] 52 (0, 0)) := (hm3.block _ (by have := HZS.out; omega) (by omega) (fun e => by have := HDO.out _ e.symm; omega)).trans HNEW.out
        have c3 : w3.cell? ⟨wr.heap.size, 1, none⟩ = some (.int .i64 nn) := by rw [cell_of_row w3 wr.heap.size 1 _ 52 (0, 0) hn3]; rfl
        have HB3 : Hid (Below w.heap.size w w3) := HBA.out.trans (hm3.below HDA.out.p.low (fun j hj => (HDA.out.p.own.lt j hj).1) HBA.out.size)
        have HD3 := Lib.hid (HDA.out.movedP hm3 h3)
        clear h3 hm3 hn3
        go_wp2_with fail
        refine (RFail_any _ _ rv D _ HD3.out.r nn hr1.2).mono ?_
        rintro e w4 ⟨rfl, rvx, h4, hm4⟩
        rw [← hE.out] at h4
        have HBX : Hid (Below w.heap.size w w4) := HB3.out.trans (hm4.below HD3.out.r.low (fun j hj => (HD3.out.r.own.lt j hj).1) HB3.out.size)
        have HDX := Lib.hid (HD3.out.movedR hm4 h4)
        clear h4 hm4
        obtain ⟨ra, rc, rfl, hds⟩ := HDX.out.r.slice
        have HDS := Lib.hid hds; clear hds
        clear hr0 hr1 hmc hmm HDO HRO HDA HBA HNEW HZS ca c0 c1 c2 HBS HDU HB h_g h_h h_j h_k c3 HB3 HD3
        go_wp2_with fail
        refine wp_region_held_drew (S := fun w' => Below w4.heap.size w4 w' ∧ w'.cell? ⟨jr, 1, none⟩ = some (.int .i64 N) ∧ w'.cell? ⟨hb, 1, none⟩ = some (.slice ra E.data.length rc) ∧ w'.cell? ⟨hb, 3, none⟩ = some (.bool E.off) ∧ (convert 23 9 (.slice ra E.data.length rc)).run Try.prog w' = .ok (.string ⟨E.data.toArray⟩) w') (by kernel_rfl) ⟨(Below.refl _ _).drew, HDX.out.rj.cell.2.1, HDX.out.r.cell.2.1, HDX.out.r.cell.2.2.2.1, run_conv_bs _ 23 9 5 Try.underlying23 Try.underlying5 Try.underlying9 ra _ rc _ HDS.out⟩ (fun hHeld => ?_)
        refine wpAnyH_take (i := 0) (v := ?_) rfl (by kernel_rfl) (by kernel_rfl) (by kernel_rfl) (fun _ _ _ h => h) (Or.inl ⟨by rfl, ?_⟩) (by assumption) ?_
        rotate_left 1
        · (intro w' hSw; (try dsimp only at hSw); obtain ⟨hs0, hs1, hs2, hs3, hs4⟩ := hSw; go_simp; try with_reducible rfl)
        try simp only [List.getElem_toArray, List.getElem_cons_zero, Act.put, List.setIfInBounds_toArray, List.set_cons_zero, List.set_cons_succ]
        refine wpAnyH_take (i := 2) (v := ?_) rfl (by kernel_rfl) (by kernel_rfl) (by kernel_rfl) (fun _ _ _ h => h) (Or.inl ⟨by rfl, ?_⟩) (by assumption) ?_
        rotate_left 1
        · (intro w' hSw; (try dsimp only at hSw); obtain ⟨hs0, hs1, hs2, hs3, hs4⟩ := hSw; go_simp; try with_reducible rfl)
        try simp only [List.getElem_toArray, List.getElem_cons_succ, List.getElem_cons_zero, Act.put, List.setIfInBounds_toArray, List.set_cons_zero, List.set_cons_succ]
        refine wpAnyH_take (i := 3) (v := ?_) rfl (by kernel_rfl) (by kernel_rfl) (by kernel_rfl) (fun _ _ _ h => h) (Or.inl ⟨by rfl, ?_⟩) (by assumption) ?_
        rotate_left 1
        · (intro w' hSw; (try dsimp only at hSw); obtain ⟨hs0, hs1, hs2, hs3, hs4⟩ := hSw; go_simp; try with_reducible rfl)
        try simp only [List.getElem_toArray, List.getElem_cons_succ, List.getElem_cons_zero, Act.put, List.setIfInBounds_toArray, List.set_cons_zero, List.set_cons_succ]
        refine wpAnyH_take (i := 4) (v := ?_) rfl (by kernel_rfl) (by kernel_rfl) (by kernel_rfl) (fun _ _ _ h => h) (Or.inl ⟨by rfl, ?_⟩) (by assumption) ?_
        rotate_left 1
        · (intro w' hSw; (try dsimp only at hSw); obtain ⟨hs0, hs1, hs2, hs3, hs4⟩ := hSw; go_simp; try with_reducible rfl)
        try simp only [List.getElem_toArray, List.getElem_cons_succ, List.getElem_cons_zero, Act.put, List.setIfInBounds_toArray, List.set_cons_zero, List.set_cons_succ]
        refine wpAnyH_take (i := 5) (v := ?_) rfl (by kernel_rfl) (by kernel_rfl) (by kernel_rfl) (fun _ _ _ h => h) (Or.inl ⟨by rfl, ?_⟩) (by assumption) ?_
        rotate_left 1
        · (intro w' hSw; (try dsimp only at hSw); obtain ⟨hs0, hs1, hs2, hs3, hs4⟩ := hSw; go_simp; try with_reducible rfl)
        try simp only [List.getElem_toArray, List.getElem_cons_succ, List.getElem_cons_zero, Act.put, List.setIfInBounds_toArray, List.set_cons_zero, List.set_cons_succ]
        refine wpAnyH_ready (rs := [1]) (by kernel_rfl) (by simp) ?_
        refine AllReadyH.cons rfl (fun K hK => ?_) AllReadyH.nil
        simp only [List.getElem_toArray, List.getElem_cons_succ, List.getElem_cons_zero]
        go_simp
        refine (Len_any _ _ _ _ _ _ (HDX.out.pj.below (Below.refl _ _).drew)).mono ?_; rintro e w' ⟨rfl, rfl⟩
        go_wp2_with fail
        refine hK.out _ _ (hHeld) (fun hHeld => ?_)
        clear hK K
        try simp only [Act.put, List.setIfInBounds_toArray, List.set_cons_zero, List.set_cons_succ]
        refine wpAnyH_take (i := 6) (v := ?_) rfl (by kernel_rfl) (by kernel_rfl) (by kernel_rfl) (fun _ _ _ h => h) (Or.inl ⟨by rfl, ?_⟩) (by assumption) ?_
        rotate_left 1
        · (intro w' hSw; (try dsimp only at hSw); obtain ⟨hs0, hs1, hs2, hs3, hs4⟩ := hSw; go_simp; try with_reducible rfl)
        try simp only [List.getElem_toArray, List.getElem_cons_succ, List.getElem_cons_zero, Act.put, List.setIfInBounds_toArray, List.set_cons_zero, List.set_cons_succ]
        refine wpAnyH_take (i := 7) (v := ?_) rfl (by kernel_rfl) (by kernel_rfl) (by kernel_rfl) (fun _ _ _ h => h) (Or.inl ⟨by rfl, ?_⟩) (by assumption) ?_
        rotate_left 1
        · (intro w' hSw; (try dsimp only at hSw); obtain ⟨hs0, hs1, hs2, hs3, hs4⟩ := hSw; go_simp; try with_reducible rfl)
        try simp only [List.getElem_toArray, List.getElem_cons_succ, List.getElem_cons_zero, Act.put, List.setIfInBounds_toArray, List.set_cons_zero, List.set_cons_succ]
        refine wpAnyH_take (i := 8) (v := ?_) rfl (by kernel_rfl) (by kernel_rfl) (by kernel_rfl) (fun _ _ _ h => h) (Or.inl ⟨by rfl, ?_⟩) (by assumption) ?_
        rotate_left 1
        · (intro w' hSw; (try dsimp only at hSw); obtain ⟨hs0, hs1, hs2, hs3, hs4⟩ := hSw; go_simp; try with_reducible rfl)
        try simp only [List.getElem_toArray, List.getElem_cons_succ, List.getElem_cons_zero, Act.put, List.setIfInBounds_toArray, List.set_cons_zero, List.set_cons_succ]
        refine wpAnyH_take (i := 11) (v := ?_) rfl (by kernel_rfl) (by kernel_rfl) (by kernel_rfl) (fun _ _ _ h => h) (Or.inl ⟨by rfl, ?_⟩) (by assumption) ?_
        rotate_left 1
        · (intro w' hSw; (try dsimp only at hSw); obtain ⟨hs0, hs1, hs2, hs3, hs4⟩ := hSw; go_simp; try with_reducible rfl)
        try simp only [List.getElem_toArray, List.getElem_cons_succ, List.getElem_cons_zero, Act.put, List.setIfInBounds_toArray, List.set_cons_zero, List.set_cons_succ]
        refine wpAnyH_take (i := 12) (v := ?_) rfl (by kernel_rfl) (by kernel_rfl) (by kernel_rfl) (fun _ _ _ h => h) (Or.inl ⟨by rfl, ?_⟩) (by assumption) ?_
        rotate_left 1
        · (intro w' hSw; (try dsimp only at hSw); obtain ⟨hs0, hs1, hs2, hs3, hs4⟩ := hSw; go_simp; try with_reducible rfl)
        try simp only [List.getElem_toArray, List.getElem_cons_succ, List.getElem_cons_zero, Act.put, List.setIfInBounds_toArray, List.set_cons_zero, List.set_cons_succ]
        refine wpAnyH_take (i := 13) (v := ?_) rfl (by kernel_rfl) (by kernel_rfl) (by kernel_rfl) (fun _ _ _ h => h) (Or.inl ⟨by rfl, ?_⟩) (by assumption) ?_
        rotate_left 1
        · (intro w' hSw; (try dsimp only at hSw); obtain ⟨hs0, hs1, hs2, hs3, hs4⟩ := hSw; go_simp; try with_reducible rfl)
        try simp only [List.getElem_toArray, List.getElem_cons_succ, List.getElem_cons_zero, Act.put, List.setIfInBounds_toArray, List.set_cons_zero, List.set_cons_succ]
        refine wpAnyH_take (i := 14) (v := ?_) rfl (by kernel_rfl) (by kernel_rfl) (by kernel_rfl) (fun _ _ _ h => h) (Or.inl ⟨by rfl, ?_⟩) (by assumption) ?_
        rotate_left 1
        · (intro w' hSw; (try dsimp only at hSw); obtain ⟨hs0, hs1, hs2, hs3, hs4⟩ := hSw; go_simp; try with_reducible rfl)
        try simp only [List.getElem_toArray, List.getElem_cons_succ, List.getElem_cons_zero, Act.put, List.setIfInBounds_toArray, List.set_cons_zero, List.set_cons_succ]
        refine wpAnyH_take (i := 15) (v := ?_) rfl (by kernel_rfl) (by kernel_rfl) (by kernel_rfl) (fun _ _ _ h => h) (Or.inl ⟨by rfl, ?_⟩) (by assumption) ?_
        rotate_left 1
        · (intro w' hSw; (try dsimp only at hSw); obtain ⟨hs0, hs1, hs2, hs3, hs4⟩ := hSw; go_simp; try with_reducible rfl)
        try simp only [List.getElem_toArray, List.getElem_cons_succ, List.getElem_cons_zero, Act.put, List.setIfInBounds_toArray, List.set_cons_zero, List.set_cons_succ]
        refine wpAnyH_ready (rs := [9]) (by kernel_rfl) (by simp) ?_
        refine AllReadyH.cons rfl (fun K hK => ?_) AllReadyH.nil
        simp only [List.getElem_toArray, List.getElem_cons_succ, List.getElem_cons_zero]
        go_simp
        refine (Bytes_any _ _ dvx _ _ (HDX.out.p.below (Below.refl _ _).drew)).mono ?_
        rintro e wy ⟨ay, cy, rfl, hsy, hby⟩
        have hbb : Below w4.heap.size w4 wy := (Below.refl _ _).drew.trans (hby.mono (Nat.le_refl _))
        go_wp2_with fail
        refine hK.out _ _ (⟨hbb, (HDX.out.rj.below hbb).cell.2.1, (HDX.out.r.below hbb).cell.2.1, (HDX.out.r.below hbb).cell.2.2.2.1, run_conv_bs _ 23 9 5 Try.underlying23 Try.underlying5 Try.underlying9 ra _ rc _ (Sl.below HDS.out hbb)⟩) (fun hHeld => ?_)
        clear hK K
        try simp only [Act.put, List.setIfInBounds_toArray, List.set_cons_zero, List.set_cons_succ]
        have hcy : (convert 23 9 (.slice ay E.data.length cy)).run Try.prog wy = .ok (.string ⟨E.data.toArray⟩) wy := run_conv_bs _ 23 9 5 Try.underlying23 Try.underlying5 Try.underlying9 ay _ cy _ hsy
        refine wpAnyH_more (S' := fun w' => (Below w4.heap.size w4 w' ∧ w'.cell? ⟨jr, 1, none⟩ = some (.int .i64 N) ∧ w'.cell? ⟨hb, 1, none⟩ = some (.slice ra E.data.length rc) ∧ w'.cell? ⟨hb, 3, none⟩ = some (.bool E.off) ∧ (convert 23 9 (.slice ra E.data.length rc)).run Try.prog w' = .ok (.string ⟨E.data.toArray⟩) w') ∧ (convert 23 9 (.slice ay E.data.length cy)).run Try.prog w' = .ok (.string ⟨E.data.toArray⟩) w') (fun _ h => h.1) _ _ _ _ ?_
        have hHeld2 := And.intro hHeld hcy
        refine wpAnyH_take (i := 10) (v := ?_) rfl (by kernel_rfl) (by kernel_rfl) (by kernel_rfl) (fun _ _ _ h => h) (Or.inl ⟨by rfl, ?_⟩) (by assumption) ?_
        rotate_left 1
        · (intro w' hSw; (try dsimp only at hSw); obtain ⟨⟨hs0, hs1, hs2, hs3, hs4⟩, hs5⟩ := hSw; go_simp; try with_reducible rfl)
        try simp only [List.getElem_toArray, List.getElem_cons_succ, List.getElem_cons_zero, Act.put, List.setIfInBounds_toArray, List.set_cons_zero, List.set_cons_succ]
        refine wpAnyH_take (i := 16) (v := ?_) rfl (by kernel_rfl) (by kernel_rfl) (by kernel_rfl) (fun _ _ _ h => h) (Or.inl ⟨by rfl, ?_⟩) (by assumption) ?_
        rotate_left 1
        · (intro w' hSw; (try dsimp only at hSw); obtain ⟨⟨hs0, hs1, hs2, hs3, hs4⟩, hs5⟩ := hSw; go_simp; try with_reducible rfl)
        try simp only [List.getElem_toArray, List.getElem_cons_succ, List.getElem_cons_zero, Act.put, List.setIfInBounds_toArray, List.set_cons_zero, List.set_cons_succ]
        refine wpAnyH_take (i := 17) (v := ?_) rfl (by kernel_rfl) (by kernel_rfl) (by kernel_rfl) (fun _ _ _ h => h) (Or.inl ⟨by rfl, ?_⟩) (by assumption) ?_
        rotate_left 1
        · (intro w' hSw; (try dsimp only at hSw); obtain ⟨⟨hs0, hs1, hs2, hs3, hs4⟩, hs5⟩ := hSw; go_simp; try with_reducible rfl)
        try simp only [List.getElem_toArray, List.getElem_cons_succ, List.getElem_cons_zero, Act.put, List.setIfInBounds_toArray, List.set_cons_zero, List.set_cons_succ]
        refine wpAnyH_take (i := 18) (v := ?_) rfl (by kernel_rfl) (by kernel_rfl) (by kernel_rfl) (fun _ _ _ h => h) (Or.inl ⟨by rfl, ?_⟩) (by assumption) ?_
        rotate_left 1
        · (intro w' hSw; (try dsimp only at hSw); obtain ⟨⟨hs0, hs1, hs2, hs3, hs4⟩, hs5⟩ := hSw; go_simp; try with_reducible rfl)
        try simp only [List.getElem_toArray, List.getElem_cons_succ, List.getElem_cons_zero, Act.put, List.setIfInBounds_toArray, List.set_cons_zero, List.set_cons_succ]
        refine wpAnyH_take (i := 19) (v := ?_) rfl (by kernel_rfl) (by kernel_rfl) (by kernel_rfl) (fun _ _ _ h => h) (Or.inl ⟨by rfl, ?_⟩) (by assumption) ?_
        rotate_left 1
        · (intro w' hSw; (try dsimp only at hSw); obtain ⟨⟨hs0, hs1, hs2, hs3, hs4⟩, hs5⟩ := hSw; go_simp; try with_reducible rfl)
        try simp only [List.getElem_toArray, List.getElem_cons_succ, List.getElem_cons_zero, Act.put, List.setIfInBounds_toArray, List.set_cons_zero, List.set_cons_succ]
        refine wpAnyH_take (i := 21) (v := ?_) rfl (by kernel_rfl) (by kernel_rfl) (by kernel_rfl) (fun _ _ _ h => h) (Or.inl ⟨by rfl, ?_⟩) (by assumption) ?_
        rotate_left 1
        · (intro w' hSw; (try dsimp only at hSw); obtain ⟨⟨hs0, hs1, hs2, hs3, hs4⟩, hs5⟩ := hSw; go_simp; try with_reducible rfl)
        try simp only [List.getElem_toArray, List.getElem_cons_succ, List.getElem_cons_zero, Act.put, List.setIfInBounds_toArray, List.set_cons_zero, List.set_cons_succ]
        refine wpAnyH_take (i := 22) (v := ?_) rfl (by kernel_rfl) (by kernel_rfl) (by kernel_rfl) (fun _ _ _ h => h) (Or.inl ⟨by rfl, ?_⟩) (by assumption) ?_
        rotate_left 1
        · (intro w' hSw; (try dsimp only at hSw); obtain ⟨⟨hs0, hs1, hs2, hs3, hs4⟩, hs5⟩ := hSw; go_simp; try with_reducible rfl)
        try simp only [List.getElem_toArray, List.getElem_cons_succ, List.getElem_cons_zero, Act.put, List.setIfInBounds_toArray, List.set_cons_zero, List.set_cons_succ]
        refine wpAnyH_take (i := 23) (v := ?_) rfl (by kernel_rfl) (by kernel_rfl) (by kernel_rfl) (fun _ _ _ h => h) (Or.inl ⟨by rfl, ?_⟩) (by assumption) ?_
        rotate_left 1
        · (intro w' hSw; (try dsimp only at hSw); obtain ⟨⟨hs0, hs1, hs2, hs3, hs4⟩, hs5⟩ := hSw; go_simp; try with_reducible rfl)
        try simp only [List.getElem_toArray, List.getElem_cons_succ, List.getElem_cons_zero, Act.put, List.setIfInBounds_toArray, List.set_cons_zero, List.set_cons_succ]
        refine wpAnyH_take (i := 24) (v := ?_) rfl (by kernel_rfl) (by kernel_rfl) (by kernel_rfl) (fun _ _ _ h => h) (Or.inl ⟨by rfl, ?_⟩) (by assumption) ?_
        rotate_left 1
        · (intro w' hSw; (try dsimp only at hSw); obtain ⟨⟨hs0, hs1, hs2, hs3, hs4⟩, hs5⟩ := hSw; go_simp; try with_reducible rfl)
        try simp only [List.getElem_toArray, List.getElem_cons_succ, List.getElem_cons_zero, Act.put, List.setIfInBounds_toArray, List.set_cons_zero, List.set_cons_succ]
        refine wpAnyH_ready (rs := [20]) (by kernel_rfl) (by simp) ?_
        refine AllReadyH.cons rfl (fun K hK => ?_) AllReadyH.nil
        simp only [List.getElem_toArray, List.getElem_cons_succ, List.getElem_cons_zero]
        go_simp
        refine (Down_any _ _ dvx _ _ (HDX.out.p.below hbb)).mono ?_; rintro e w' ⟨rfl, rfl⟩
        go_wp2_with fail
        refine hK.out _ _ (hHeld2) (fun hHeld => ?_)
        clear hK K
        try simp only [Act.put, List.setIfInBounds_toArray, List.set_cons_zero, List.set_cons_succ]
        refine wpAnyH_take (i := 25) (v := ?_) rfl (by kernel_rfl) (by kernel_rfl) (by kernel_rfl) (fun _ _ _ h => h) (Or.inl ⟨by rfl, ?_⟩) (by assumption) ?_
        rotate_left 1
        · (intro w' hSw; (try dsimp only at hSw); obtain ⟨⟨hs0, hs1, hs2, hs3, hs4⟩, hs5⟩ := hSw; go_simp; try with_reducible rfl)
        try simp only [List.getElem_toArray, List.getElem_cons_succ, List.getElem_cons_zero, Act.put, List.setIfInBounds_toArray, List.set_cons_zero, List.set_cons_succ]
        refine wpAnyH_take (i := 26) (v := ?_) rfl (by kernel_rfl) (by kernel_rfl) (by kernel_rfl) (fun _ _ _ h => h) (Or.inl ⟨by rfl, ?_⟩) (by assumption) ?_
        rotate_left 1
        · (intro w' hSw; (try dsimp only at hSw); obtain ⟨⟨hs0, hs1, hs2, hs3, hs4⟩, hs5⟩ := hSw; go_simp; try with_reducible rfl)
        try simp only [List.getElem_toArray, List.getElem_cons_succ, List.getElem_cons_zero, Act.put, List.setIfInBounds_toArray, List.set_cons_zero, List.set_cons_succ]
        refine wpAnyH_done (by kernel_rfl) ?_ _
        clear hHeld hHeld2 hsy hby hcy
        go_wp2_with fail
        go_roundw
        case rel => exact ⟨k + 1, j, jr, dvx, .slice ra E.data.length rc, E, N, en, by omega, rfl, rfl, by go_num, by omega, HBX.out.trans (hbb.mono HBX.out.size), HDX.out.below hbb⟩
        case measure => simp [intOf]; omega
      have halloc : Below wr.heap.size wr (wr.alloc (.cells #[.int .i64 kd, .int .i64 nn, .slice x m q] 52)) := Below.allocR _ _
      have HDA := Lib.hid (HDU.out.below halloc)
      have HBA : Hid (Below w.heap.size w (wr.alloc (.cells #[.int .i64 kd, .int .i64 nn, .slice x m q] 52))) := HB.out.trans (halloc.mono HB.out.size)
      have hnew : (wr.alloc (.cells #[.int .i64 kd, .int .i64 nn, .slice x m q] 52)).heap[wr.heap.size]? = some (.cells #[.int .i64 kd, .int .i64 nn, .slice x m q] 52 (0, 0)) := heap_alloc_new wr _
      have hzs : (wr.alloc (.cells #[.int .i64 kd, .int .i64 nn, .slice x m q] 52)).heap.size = wr.heap.size + 1 := by simp
      have h_g := HDU.out.p.lt
      have h_h := HDU.out.r.lt
      have h_j := HDU.out.pj.lt
      have h_k := HDU.out.rj.lt
      have HDO : Hid (∀ j, dv.ownBlock = some j → j < wr.heap.size) := fun j h => (HDU.out.p.own.lt j h).2
      have HRO : Hid (∀ j, rv.ownBlock = some j → j < wr.heap.size) := fun j h => (HDU.out.r.own.lt j h).2
      have HNEW := Lib.hid hnew; clear hnew
      have HZS := Lib.hid hzs; clear hzs halloc
      go_wp2_with fail
      generalize wr.alloc (.cells #[.int .i64 kd, .int .i64 nn, .slice x m q] 52) = wa at *
      have ca : wa.cell? ⟨wr.heap.size, 2, none⟩ = some (.slice x m q) := by rw [cell_of_row wa wr.heap.size 2 _ 52 (0, 0) HNEW.out]; rfl
      obtain ⟨E, hE⟩ : ∃ E, Hid (E = (JS.append ⟨D, N, en⟩ dat).1.d) := ⟨_, rfl⟩
      obtain ⟨N', hN'⟩ : ∃ N', Hid (N' = (JS.append ⟨D, N, en⟩ dat).1.n) := ⟨_, rfl⟩
      obtain ⟨en', hen⟩ : ∃ en', Hid (en' = (JS.append ⟨D, N, en⟩ dat).1.ended) := ⟨_, rfl⟩
      obtain ⟨ez, hez⟩ : ∃ ez : Nat, Hid (ez = (JS.append ⟨D, N, en⟩ dat).2) := ⟨_, rfl⟩
      have hNN : N' ≤ N + 1 := by rw [hN'.out]; exact cnt_le ⟨D, N, en⟩ dat
      have HDA := Lib.hid (HDA.out.below (Below.refl _ _).drew)
      have HBA : Hid (Below w.heap.size w wa.drew) := HBA.out.drew
      have HNEW : Hid (wa.drew.heap[wr.heap.size]? = _) := HNEW.out
      have HZS : Hid (wa.drew.heap.size = wr.heap.size + 1) := HZS.out
      go_region_held3 (fun (w' : World) => w'.cell? ⟨wr.heap.size, 2, none⟩ = some (.slice x m q)) (assumption) (first
        | (go_at_call 16; refine (Append_any j _ _ dv ⟨D, N, en⟩ _ HDA.out.p HDA.out.pj HDA.out.ap.jg HDA.out.ap.dj (by show N < _; omega) x m q dat (Sl.below HBS.out HBA.out)).mono ?_
           rintro e w3 ⟨rfl, dvx, h3, hj3, hm3, hd3⟩
           rw [← hE.out] at h3
           rw [← hN'.out, ← hen.out] at hj3
           rw [← hez.out]
           have hn3 : w3.heap[wr.heap.size]? = some (.cells #[.int .i64 kd, .int .i64 nn, .slice x m q] 52 (0, 0)) := (hm3.block _ (by have := HZS.out; omega) (by omega) (by omega) (fun e => by have := HDO.out _ e.symm; omega)).trans HNEW.out
           have hz3 : wr.heap.size < w3.heap.size := by have := HZS.out; have := hm3.size; omega
           have c3 : w3.cell? ⟨wr.heap.size, 2, none⟩ = some (.slice x m q) := by rw [cell_of_row w3 wr.heap.size 2 _ 52 (0, 0) hn3]; rfl
           have HB3 : Hid (Below w.heap.size w w3) := HBA.out.trans (hm3.below HDA.out.pj.low HDA.out.p.low (fun j hj => (HDA.out.p.own.lt j hj).1) HBA.out.size)
           have HD3 := Lib.hid (HDA.out.jmovedP hm3 h3 hj3 hd3)
           have HN3 := Lib.hid hn3
           clear h3 hj3 hm3 hd3 hn3)
        | (go_at_call 30; refine (RAppend_any jr _ _ rv ⟨D, N, en⟩ _ HD3.out.r HD3.out.rj HD3.out.ap.rh HD3.out.ap.er (by show N < _; omega) x m q dat (Sl.below HBS.out HB3.out)).mono ?_
           rintro e w4 ⟨rfl, rvx, h4, hj4, hm4, hd4⟩
           rw [← hE.out] at h4
           rw [← hN'.out, ← hen.out] at hj4
           rw [← hez.out]
           have c4 : w4.cell? ⟨wr.heap.size, 2, none⟩ = some (.slice x m q) := by rw [cell_of_row w4 wr.heap.size 2 _ 52 (0, 0) ((hm4.block _ hz3 (by omega) (by omega) (fun e => by have := HRO.out _ e.symm; omega)).trans HN3.out)]; rfl
           have HBX : Hid (Below w.heap.size w w4) := HB3.out.trans (hm4.below HD3.out.rj.low HD3.out.r.low (fun j hj => (HD3.out.r.own.lt j hj).1) HB3.out.size)
           have HDX := Lib.hid (HD3.out.jmovedR hm4 h4 hj4 hd4)
           clear h4 hj4 hm4 hd4))
      go_wp2_with fail
      obtain ⟨ra, rc, rfl, hds⟩ := HDX.out.r.slice
      have HDS := Lib.hid hds; clear hds
      clear hr0 hr1 hmc hmm HDO HRO HDA HBA HNEW HZS ca c0 c1 c2 HBS HDU HB h_g h_h h_j h_k c3 c4 hz3 HN3 HB3 HD3
      go_wp2_with fail
      refine wp_region_held_drew (S := fun w' => Below w4.heap.size w4 w' ∧ w'.cell? ⟨jr, 1, none⟩ = some (.int .i64 N') ∧ w'.cell? ⟨hb, 1, none⟩ = some (.slice ra E.data.length rc) ∧ w'.cell? ⟨hb, 3, none⟩ = some (.bool E.off) ∧ (convert 23 9 (.slice ra E.data.length rc)).run Try.prog w' = .ok (.string ⟨E.data.toArray⟩) w') (by kernel_rfl) ⟨(Below.refl _ _).drew, HDX.out.rj.cell.2.1, HDX.out.r.cell.2.1, HDX.out.r.cell.2.2.2.1, run_conv_bs _ 23 9 5 Try.underlying23 Try.underlying5 Try.underlying9 ra _ rc _ HDS.out⟩ (fun hHeld => ?_)
      refine wpAnyH_take (i := 0) (v := ?_) rfl (by kernel_rfl) (by kernel_rfl) (by kernel_rfl) (fun _ _ _ h => h) (Or.inl ⟨by rfl, ?_⟩) (by assumption) ?_
      rotate_left 1
      · (intro w' hSw; (try dsimp only at hSw); obtain ⟨hs0, hs1, hs2, hs3, hs4⟩ := hSw; go_simp; try with_reducible rfl)
      try simp only [List.getElem_toArray, List.getElem_cons_zero, Act.put, List.setIfInBounds_toArray, List.set_cons_zero, List.set_cons_succ]
      refine wpAnyH_take (i := 2) (v := ?_) rfl (by kernel_rfl) (by kernel_rfl) (by kernel_rfl) (fun _ _ _ h => h) (Or.inl ⟨by rfl, ?_⟩) (by assumption) ?_
      rotate_left 1
      · (intro w' hSw; (try dsimp only at hSw); obtain ⟨hs0, hs1, hs2, hs3, hs4⟩ := hSw; go_simp; try with_reducible rfl)
      try simp only [List.getElem_toArray, List.getElem_cons_succ, List.getElem_cons_zero, Act.put, List.setIfInBounds_toArray, List.set_cons_zero, List.set_cons_succ]
      refine wpAnyH_take (i := 3) (v := ?_) rfl (by kernel_rfl) (by kernel_rfl) (by kernel_rfl) (fun _ _ _ h => h) (Or.inl ⟨by rfl, ?_⟩) (by assumption) ?_
      rotate_left 1
      · (intro w' hSw; (try dsimp only at hSw); obtain ⟨hs0, hs1, hs2, hs3, hs4⟩ := hSw; go_simp; try with_reducible rfl)
      try simp only [List.getElem_toArray, List.getElem_cons_succ, List.getElem_cons_zero, Act.put, List.setIfInBounds_toArray, List.set_cons_zero, List.set_cons_succ]
      refine wpAnyH_take (i := 4) (v := ?_) rfl (by kernel_rfl) (by kernel_rfl) (by kernel_rfl) (fun _ _ _ h => h) (Or.inl ⟨by rfl, ?_⟩) (by assumption) ?_
      rotate_left 1
      · (intro w' hSw; (try dsimp only at hSw); obtain ⟨hs0, hs1, hs2, hs3, hs4⟩ := hSw; go_simp; try with_reducible rfl)
      try simp only [List.getElem_toArray, List.getElem_cons_succ, List.getElem_cons_zero, Act.put, List.setIfInBounds_toArray, List.set_cons_zero, List.set_cons_succ]
      refine wpAnyH_take (i := 5) (v := ?_) rfl (by kernel_rfl) (by kernel_rfl) (by kernel_rfl) (fun _ _ _ h => h) (Or.inl ⟨by rfl, ?_⟩) (by assumption) ?_
      rotate_left 1
      · (intro w' hSw; (try dsimp only at hSw); obtain ⟨hs0, hs1, hs2, hs3, hs4⟩ := hSw; go_simp; try with_reducible rfl)
      try simp only [List.getElem_toArray, List.getElem_cons_succ, List.getElem_cons_zero, Act.put, List.setIfInBounds_toArray, List.set_cons_zero, List.set_cons_succ]
      refine wpAnyH_ready (rs := [1]) (by kernel_rfl) (by simp) ?_
      refine AllReadyH.cons rfl (fun K hK => ?_) AllReadyH.nil
      simp only [List.getElem_toArray, List.getElem_cons_succ, List.getElem_cons_zero]
      go_simp
      refine (Len_any _ _ _ _ _ _ (HDX.out.pj.below (Below.refl _ _).drew)).mono ?_; rintro e w' ⟨rfl, rfl⟩
      go_wp2_with fail
      refine hK.out _ _ (hHeld) (fun hHeld => ?_)
      clear hK K
      try simp only [Act.put, List.setIfInBounds_toArray, List.set_cons_zero, List.set_cons_succ]
      refine wpAnyH_take (i := 6) (v := ?_) rfl (by kernel_rfl) (by kernel_rfl) (by kernel_rfl) (fun _ _ _ h => h) (Or.inl ⟨by rfl, ?_⟩) (by assumption) ?_
      rotate_left 1
      · (intro w' hSw; (try dsimp only at hSw); obtain ⟨hs0, hs1, hs2, hs3, hs4⟩ := hSw; go_simp; try with_reducible rfl)
      try simp only [List.getElem_toArray, List.getElem_cons_succ, List.getElem_cons_zero, Act.put, List.setIfInBounds_toArray, List.set_cons_zero, List.set_cons_succ]
      refine wpAnyH_take (i := 7) (v := ?_) rfl (by kernel_rfl) (by kernel_rfl) (by kernel_rfl) (fun _ _ _ h => h) (Or.inl ⟨by rfl, ?_⟩) (by assumption) ?_
      rotate_left 1
      · (intro w' hSw; (try dsimp only at hSw); obtain ⟨hs0, hs1, hs2, hs3, hs4⟩ := hSw; go_simp; try with_reducible rfl)
      try simp only [List.getElem_toArray, List.getElem_cons_succ, List.getElem_cons_zero, Act.put, List.setIfInBounds_toArray, List.set_cons_zero, List.set_cons_succ]
      refine wpAnyH_take (i := 8) (v := ?_) rfl (by kernel_rfl) (by kernel_rfl) (by kernel_rfl) (fun _ _ _ h => h) (Or.inl ⟨by rfl, ?_⟩) (by assumption) ?_
      rotate_left 1
      · (intro w' hSw; (try dsimp only at hSw); obtain ⟨hs0, hs1, hs2, hs3, hs4⟩ := hSw; go_simp; try with_reducible rfl)
      try simp only [List.getElem_toArray, List.getElem_cons_succ, List.getElem_cons_zero, Act.put, List.setIfInBounds_toArray, List.set_cons_zero, List.set_cons_succ]
      refine wpAnyH_take (i := 11) (v := ?_) rfl (by kernel_rfl) (by kernel_rfl) (by kernel_rfl) (fun _ _ _ h => h) (Or.inl ⟨by rfl, ?_⟩) (by assumption) ?_
      rotate_left 1
      · (intro w' hSw; (try dsimp only at hSw); obtain ⟨hs0, hs1, hs2, hs3, hs4⟩ := hSw; go_simp; try with_reducible rfl)
      try simp only [List.getElem_toArray, List.getElem_cons_succ, List.getElem_cons_zero, Act.put, List.setIfInBounds_toArray, List.set_cons_zero, List.set_cons_succ]
      refine wpAnyH_take (i := 12) (v := ?_) rfl (by kernel_rfl) (by kernel_rfl) (by kernel_rfl) (fun _ _ _ h => h) (Or.inl ⟨by rfl, ?_⟩) (by assumption) ?_
      rotate_left 1
      · (intro w' hSw; (try dsimp only at hSw); obtain ⟨hs0, hs1, hs2, hs3, hs4⟩ := hSw; go_simp; try with_reducible rfl)
      try simp only [List.getElem_toArray, List.getElem_cons_succ, List.getElem_cons_zero, Act.put, List.setIfInBounds_toArray, List.set_cons_zero, List.set_cons_succ]
      refine wpAnyH_take (i := 13) (v := ?_) rfl (by kernel_rfl) (by kernel_rfl) (by kernel_rfl) (fun _ _ _ h => h) (Or.inl ⟨by rfl, ?_⟩) (by assumption) ?_
      rotate_left 1
      · (intro w' hSw; (try dsimp only at hSw); obtain ⟨hs0, hs1, hs2, hs3, hs4⟩ := hSw; go_simp; try with_reducible rfl)
      try simp only [List.getElem_toArray, List.getElem_cons_succ, List.getElem_cons_zero, Act.put, List.setIfInBounds_toArray, List.set_cons_zero, List.set_cons_succ]
      refine wpAnyH_take (i := 14) (v := ?_) rfl (by kernel_rfl) (by kernel_rfl) (by kernel_rfl) (fun _ _ _ h => h) (Or.inl ⟨by rfl, ?_⟩) (by assumption) ?_
      rotate_left 1
      · (intro w' hSw; (try dsimp only at hSw); obtain ⟨hs0, hs1, hs2, hs3, hs4⟩ := hSw; go_simp; try with_reducible rfl)
      try simp only [List.getElem_toArray, List.getElem_cons_succ, List.getElem_cons_zero, Act.put, List.setIfInBounds_toArray, List.set_cons_zero, List.set_cons_succ]
      refine wpAnyH_take (i := 15) (v := ?_) rfl (by kernel_rfl) (by kernel_rfl) (by kernel_rfl) (fun _ _ _ h => h) (Or.inl ⟨by rfl, ?_⟩) (by assumption) ?_
      rotate_left 1
      · (intro w' hSw; (try dsimp only at hSw); obtain ⟨hs0, hs1, hs2, hs3, hs4⟩ := hSw; go_simp; try with_reducible rfl)
      try simp only [List.getElem_toArray, List.getElem_cons_succ, List.getElem_cons_zero, Act.put, List.setIfInBounds_toArray, List.set_cons_zero, List.set_cons_succ]
      refine wpAnyH_ready (rs := [9]) (by kernel_rfl) (by simp) ?_
      refine AllReadyH.cons rfl (fun K hK => ?_) AllReadyH.nil
      simp only [List.getElem_toArray, List.getElem_cons_succ, List.getElem_cons_zero]
      go_simp
      refine (Bytes_any _ _ dvx _ _ (HDX.out.p.below (Below.refl _ _).drew)).mono ?_
      rintro e wy ⟨ay, cy, rfl, hsy, hby⟩
      have hbb : Below w4.heap.size w4 wy := (Below.refl _ _).drew.trans (hby.mono (Nat.le_refl _))
      go_wp2_with fail
      refine hK.out _ _ (⟨hbb, (HDX.out.rj.below hbb).cell.2.1, (HDX.out.r.below hbb).cell.2.1, (HDX.out.r.below hbb).cell.2.2.2.1, run_conv_bs _ 23 9 5 Try.underlying23 Try.underlying5 Try.underlying9 ra _ rc _ (Sl.below HDS.out hbb)⟩) (fun hHeld => ?_)
      clear hK K
      try simp only [Act.put, List.setIfInBounds_toArray, List.set_cons_zero, List.set_cons_succ]
      have hcy : (convert 23 9 (.slice ay E.data.length cy)).run Try.prog wy = .ok (.string ⟨E.data.toArray⟩) wy := run_conv_bs _ 23 9 5 Try.underlying23 Try.underlying5 Try.underlying9 ay _ cy _ hsy
      refine wpAnyH_more (S' := fun w' => (Below w4.heap.size w4 w' ∧ w'.cell? ⟨jr, 1, none⟩ = some (.int .i64 N') ∧ w'.cell? ⟨hb, 1, none⟩ = some (.slice ra E.data.length rc) ∧ w'.cell? ⟨hb, 3, none⟩ = some (.bool E.off) ∧ (convert 23 9 (.slice ra E.data.length rc)).run Try.prog w' = .ok (.string ⟨E.data.toArray⟩) w') ∧ (convert 23 9 (.slice ay E.data.length cy)).run Try.prog w' = .ok (.string ⟨E.data.toArray⟩) w') (fun _ h => h.1) _ _ _ _ ?_
      have hHeld2 := And.intro hHeld hcy
      refine wpAnyH_take (i := 10) (v := ?_) rfl (by kernel_rfl) (by kernel_rfl) (by kernel_rfl) (fun _ _ _ h => h) (Or.inl ⟨by rfl, ?_⟩) (by assumption) ?_
      rotate_left 1
      · (intro w' hSw; (try dsimp only at hSw); obtain ⟨⟨hs0, hs1, hs2, hs3, hs4⟩, hs5⟩ := hSw; go_simp; try with_reducible rfl)
      try simp only [List.getElem_toArray, List.getElem_cons_succ, List.getElem_cons_zero, Act.put, List.setIfInBounds_toArray, List.set_cons_zero, List.set_cons_succ]
      refine wpAnyH_take (i := 16) (v := ?_) rfl (by kernel_rfl) (by kernel_rfl) (by kernel_rfl) (fun _ _ _ h => h) (Or.inl ⟨by rfl, ?_⟩) (by assumption) ?_
      rotate_left 1
      · (intro w' hSw; (try dsimp only at hSw); obtain ⟨⟨hs0, hs1, hs2, hs3, hs4⟩, hs5⟩ := hSw; go_simp; try with_reducible rfl)
      try simp only [List.getElem_toArray, List.getElem_cons_succ, List.getElem_cons_zero, Act.put, List.setIfInBounds_toArray, List.set_cons_zero, List.set_cons_succ]
      refine wpAnyH_take (i := 17) (v := ?_) rfl (by kernel_rfl) (by kernel_rfl) (by kernel_rfl) (fun _ _ _ h => h) (Or.inl ⟨by rfl, ?_⟩) (by assumption) ?_
      rotate_left 1
      · (intro w' hSw; (try dsimp only at hSw); obtain ⟨⟨hs0, hs1, hs2, hs3, hs4⟩, hs5⟩ := hSw; go_simp; try with_reducible rfl)
      try simp only [List.getElem_toArray, List.getElem_cons_succ, List.getElem_cons_zero, Act.put, List.setIfInBounds_toArray, List.set_cons_zero, List.set_cons_succ]
      refine wpAnyH_take (i := 18) (v := ?_) rfl (by kernel_rfl) (by kernel_rfl) (by kernel_rfl) (fun _ _ _ h => h) (Or.inl ⟨by rfl, ?_⟩) (by assumption) ?_
      rotate_left 1
      · (intro w' hSw; (try dsimp only at hSw); obtain ⟨⟨hs0, hs1, hs2, hs3, hs4⟩, hs5⟩ := hSw; go_simp; try with_reducible rfl)
      try simp only [List.getElem_toArray, List.getElem_cons_succ, List.getElem_cons_zero, Act.put, List.setIfInBounds_toArray, List.set_cons_zero, List.set_cons_succ]
      refine wpAnyH_take (i := 19) (v := ?_) rfl (by kernel_rfl) (by kernel_rfl) (by kernel_rfl) (fun _ _ _ h => h) (Or.inl ⟨by rfl, ?_⟩) (by assumption) ?_
      rotate_left 1
      · (intro w' hSw; (try dsimp only at hSw); obtain ⟨⟨hs0, hs1, hs2, hs3, hs4⟩, hs5⟩ := hSw; go_simp; try with_reducible rfl)
      try simp only [List.getElem_toArray, List.getElem_cons_succ, List.getElem_cons_zero, Act.put, List.setIfInBounds_toArray, List.set_cons_zero, List.set_cons_succ]
      refine wpAnyH_take (i := 21) (v := ?_) rfl (by kernel_rfl) (by kernel_rfl) (by kernel_rfl) (fun _ _ _ h => h) (Or.inl ⟨by rfl, ?_⟩) (by assumption) ?_
      rotate_left 1
      · (intro w' hSw; (try dsimp only at hSw); obtain ⟨⟨hs0, hs1, hs2, hs3, hs4⟩, hs5⟩ := hSw; go_simp; try with_reducible rfl)
      try simp only [List.getElem_toArray, List.getElem_cons_succ, List.getElem_cons_zero, Act.put, List.setIfInBounds_toArray, List.set_cons_zero, List.set_cons_succ]
      refine wpAnyH_take (i := 22) (v := ?_) rfl (by kernel_rfl) (by kernel_rfl) (by kernel_rfl) (fun _ _ _ h => h) (Or.inl ⟨by rfl, ?_⟩) (by assumption) ?_
      rotate_left 1
      · (intro w' hSw; (try dsimp only at hSw); obtain ⟨⟨hs0, hs1, hs2, hs3, hs4⟩, hs5⟩ := hSw; go_simp; try with_reducible rfl)
      try simp only [List.getElem_toArray, List.getElem_cons_succ, List.getElem_cons_zero, Act.put, List.setIfInBounds_toArray, List.set_cons_zero, List.set_cons_succ]
      refine wpAnyH_take (i := 23) (v := ?_) rfl (by kernel_rfl) (by kernel_rfl) (by kernel_rfl) (fun _ _ _ h => h) (Or.inl ⟨by rfl, ?_⟩) (by assumption) ?_
      rotate_left 1
      · (intro w' hSw; (try dsimp only at hSw); obtain ⟨⟨hs0, hs1, hs2, hs3, hs4⟩, hs5⟩ := hSw; go_simp; try with_reducible rfl)
      try simp only [List.getElem_toArray, List.getElem_cons_succ, List.getElem_cons_zero, Act.put, List.setIfInBounds_toArray, List.set_cons_zero, List.set_cons_succ]
      refine wpAnyH_take (i := 24) (v := ?_) rfl (by kernel_rfl) (by kernel_rfl) (by kernel_rfl) (fun _ _ _ h => h) (Or.inl ⟨by rfl, ?_⟩) (by assumption) ?_
      rotate_left 1
      · (intro w' hSw; (try dsimp only at hSw); obtain ⟨⟨hs0, hs1, hs2, hs3, hs4⟩, hs5⟩ := hSw; go_simp; try with_reducible rfl)
      try simp only [List.getElem_toArray, List.getElem_cons_succ, List.getElem_cons_zero, Act.put, List.setIfInBounds_toArray, List.set_cons_zero, List.set_cons_succ]
      refine wpAnyH_ready (rs := [20]) (by kernel_rfl) (by simp) ?_
      refine AllReadyH.cons rfl (fun K hK => ?_) AllReadyH.nil
      simp only [List.getElem_toArray, List.getElem_cons_succ, List.getElem_cons_zero]
      go_simp
      refine (Down_any _ _ dvx _ _ (HDX.out.p.below hbb)).mono ?_; rintro e w' ⟨rfl, rfl⟩
      go_wp2_with fail
      refine hK.out _ _ (hHeld2) (fun hHeld => ?_)
      clear hK K
      try simp only [Act.put, List.setIfInBounds_toArray, List.set_cons_zero, List.set_cons_succ]
      refine wpAnyH_take (i := 25) (v := ?_) rfl (by kernel_rfl) (by kernel_rfl) (by kernel_rfl) (fun _ _ _ h => h) (Or.inl ⟨by rfl, ?_⟩) (by assumption) ?_
      rotate_left 1
      · (intro w' hSw; (try dsimp only at hSw); obtain ⟨⟨hs0, hs1, hs2, hs3, hs4⟩, hs5⟩ := hSw; go_simp; try with_reducible rfl)
      try simp only [List.getElem_toArray, List.getElem_cons_succ, List.getElem_cons_zero, Act.put, List.setIfInBounds_toArray, List.set_cons_zero, List.set_cons_succ]
      refine wpAnyH_take (i := 26) (v := ?_) rfl (by kernel_rfl) (by kernel_rfl) (by kernel_rfl) (fun _ _ _ h => h) (Or.inl ⟨by rfl, ?_⟩) (by assumption) ?_
      rotate_left 1
      · (intro w' hSw; (try dsimp only at hSw); obtain ⟨⟨hs0, hs1, hs2, hs3, hs4⟩, hs5⟩ := hSw; go_simp; try with_reducible rfl)
      try simp only [List.getElem_toArray, List.getElem_cons_succ, List.getElem_cons_zero, Act.put, List.setIfInBounds_toArray, List.set_cons_zero, List.set_cons_succ]
      refine wpAnyH_done (by kernel_rfl) ?_ _
      clear hHeld hHeld2 hsy hby hcy
      go_wp2_with fail
      go_roundw
      case rel => exact ⟨k + 1, j, jr, dvx, .slice ra E.data.length rc, E, N', en', by omega, rfl, rfl, by go_num, by omega, HBX.out.trans (hbb.mono HBX.out.size), HDX.out.below hbb⟩
      case measure => simp [intOf]; omega
    · go_wp2_with fail
      go_ret
      exact ⟨rfl, HB.out⟩
end Go.Proofs.Ytelbapljkefjcaa
