/-
  The walk of device, and of JournalDevice. Printed by device.py.
-/
import Derived.Test.YtelbapljkefjcaaHeld
import Derived.Test.YtelbapljkefjcaaApart
namespace Go.Proofs.Ytelbapljkefjcaa
open Go.RowKit

set_option maxRecDepth 100000 in
set_option maxHeartbeats 6400000 in
theorem device_any (size : Int) (a : Option Addr) (n c : Nat) (L : List St) (w : World) (hv : Steps w a n c L) :
    Calls Try.prog 24 #[.int .i64 size, .slice a n c] w (Holds w) := by
  have hl := hv.len
  have hc := hv.le
  have hm := hv.cap
  unfold maxLen at hm
  have HV := Lib.hid hv; clear hv
  have HL := Lib.hid hl; clear hl
  go_enter Try.func24, Try.ntmps24
  go_wp2_with fail
  refine (NewDevice_any size w w.heap.size (Nat.le_refl _)).mono ?_
  rintro e w1 ⟨rfl, h1, hb1, hz1⟩
  have H1 := Lib.hid h1; clear h1
  have HB1 := Lib.hid hb1; clear hb1
  go_wp2_with fail
  refine (RNewDevice_any size w1 w.heap.size (by omega)).mono ?_
  rintro e w2 ⟨rfl, h2, hb2, hz2⟩
  have hgh : w.heap.size ≠ w1.heap.size := by omega
  have HB2 : Hid (Below w.heap.size w w2) := HB1.out.trans (hb2.mono HB1.out.size)
  have HP : Hid (Dev w2 w.heap.size 63 w.heap.size (.slice none 0 0) (DS.new size)) := H1.out.below hb2
  have HR := Lib.hid h2; clear h2
  have HA : Hid (Apart2 w.heap.size w1.heap.size (.slice none 0 0) (.slice none 0 0)) := ⟨hgh, by simp [Value.ownBlock], by simp [Value.ownBlock], by simp [Value.ownBlock]⟩
  clear hb2 H1 hz2 hz1 hgh HB1
  generalize w1.heap.size = hb at *
  go_wp2_with fail
  go_loopw [7] (fun i wr => ∃ k : Nat, ∃ dv rv D, k ≤ n ∧ i = .int .i64 k ∧ Below w.heap.size w wr ∧ Dev wr w.heap.size 63 w.heap.size dv D ∧ Dev wr w.heap.size 56 hb rv D ∧ Hid (Apart2 w.heap.size hb dv rv)) (fun i _ => n - (intOf i).toNat)
  case atStart => exact ⟨0, _, _, _, Nat.zero_le _, rfl, HB2.out, HP.out, HR.out, HA⟩
  case round =>
    clear HB2 HP HR HA
    obtain ⟨k, dv, rv, D, hk, rfl, hbel, hp, hr, HAP⟩ := hrel
    have HB := Lib.hid hbel; clear hbel
    have HP := Lib.hid hp; clear hp
    have HR := Lib.hid hr; clear hr
    by_cases hlt : k < n
    · obtain ⟨s, hs⟩ : ∃ s, L[k]? = some s := ⟨_, List.getElem?_eq_getElem (by rw [HL.out]; exact hlt)⟩
      obtain ⟨b, o, x, m, q, rfl, c0w, c1w, c2w, hbs, hr0, hr1⟩ := HV.out.at_ k s hs
      have hbk : wr.heap[b]? = w.heap[b]? := HB.out.block b (cell_lt c0w)
      have c0 := (World.cell?_of_block (w := w) hbk).trans c0w
      have c1 := (World.cell?_of_block (w := w) hbk).trans c1w
      have c2 := (World.cell?_of_block (w := w) hbk).trans c2w
      clear c0w c1w c2w hbk
      have HBS := Lib.hid hbs; clear hbs
      have hmc := HBS.out.le_cap
      have hmm := HBS.out.cap_le
      unfold maxLen at hmm
      have hgl := HP.out.lt
      have hhl := HR.out.lt
      have HDO : Hid (∀ j, dv.ownBlock = some j → j < wr.heap.size) := fun j h => (HP.out.own.lt j h).2
      have HRO : Hid (∀ j, rv.ownBlock = some j → j < wr.heap.size) := fun j h => (HR.out.own.lt j h).2
      clear hs
      obtain ⟨kd, nn, dat⟩ := s
      simp only at c0 c1 c2 hr0 hr1
      simp only at HBS
      by_cases k0 : kd = 0
      · subst k0
        have halloc : Below wr.heap.size wr (wr.alloc (.cells #[.int .i64 0, .int .i64 nn, .slice x m q] 52)) := Below.allocR _ _
        have HPA := Lib.hid (HP.out.below halloc)
        have HRA := Lib.hid (HR.out.below halloc)
        have HBA : Hid (Below w.heap.size w (wr.alloc (.cells #[.int .i64 0, .int .i64 nn, .slice x m q] 52))) := HB.out.trans (halloc.mono HB.out.size)
        have hnew : (wr.alloc (.cells #[.int .i64 0, .int .i64 nn, .slice x m q] 52)).heap[wr.heap.size]? = some (.cells #[.int .i64 0, .int .i64 nn, .slice x m q] 52 (0, 0)) := heap_alloc_new wr _
        have hzs : (wr.alloc (.cells #[.int .i64 0, .int .i64 nn, .slice x m q] 52)).heap.size = wr.heap.size + 1 := by simp
        have HNEW := Lib.hid hnew; clear hnew
        have HZS := Lib.hid hzs; clear hzs halloc
        go_wp2_with fail
        generalize wr.alloc (.cells #[.int .i64 0, .int .i64 nn, .slice x m q] 52) = wa at *
        have ca : wa.cell? ⟨wr.heap.size, 1, none⟩ = some (.int .i64 nn) := by rw [cell_of_row wa wr.heap.size 1 _ 52 (0, 0) HNEW.out]; rfl
        obtain ⟨E, hE⟩ : ∃ E, Hid (E = D.sync.1) := ⟨_, rfl⟩
        obtain ⟨ez, hez⟩ : ∃ ez : Nat, Hid (ez = D.sync.2) := ⟨_, rfl⟩
        refine (Sync_any _ _ dv D _ HPA.out).mono ?_
        rintro e w3 ⟨rfl, dv3, h3, hm3⟩
        rw [← hE.out] at h3
        rw [← hez.out]
        obtain ⟨hr3, ha3⟩ := Dev.movedP HPA.out HRA.out HAP.out hm3
        have hn3 : w3.heap[wr.heap.size]? = some (.cells #[.int .i64 0, .int .i64 nn, .slice x m q] 52 (0, 0)) := (hm3.block _ (by have := HZS.out; omega) (by omega) (fun e => by have := HDO.out _ e.symm; omega)).trans HNEW.out
        have HB3 : Hid (Below w.heap.size w w3) := HBA.out.trans (hm3.below HPA.out.low (fun j hj => (HPA.out.own.lt j hj).1) HBA.out.size)
        have hz3 : wr.heap.size < w3.heap.size := by have := HZS.out; have := hm3.size; omega
        have c3 : w3.cell? ⟨wr.heap.size, 1, none⟩ = some (.int .i64 nn) := by rw [cell_of_row w3 wr.heap.size 1 _ 52 (0, 0) hn3]; rfl
        have HR3 := Lib.hid hr3
        have HA3 := Lib.hid ha3
        have H3 := Lib.hid h3
        have HN3 := Lib.hid hn3
        clear h3 hm3 hr3 ha3 hn3
        go_wp2_with fail
        refine (RSync_any _ _ rv D _ HR3.out).mono ?_
        rintro e w4 ⟨rfl, rv4, h4, hm4⟩
        rw [← hE.out] at h4
        rw [← hez.out]
        obtain ⟨hp4, ha4⟩ := Dev.movedP HR3.out H3.out HA3.out.symm hm4
        have HB4 : Hid (Below w.heap.size w w4) := HB3.out.trans (hm4.below HR3.out.low (fun j hj => (HR3.out.own.lt j hj).1) HB3.out.size)
        have c4 : w4.cell? ⟨wr.heap.size, 1, none⟩ = some (.int .i64 nn) := by rw [cell_of_row w4 wr.heap.size 1 _ 52 (0, 0) ((hm4.block _ hz3 (by omega) (fun e => by have := HRO.out _ e.symm; omega)).trans HN3.out)]; rfl
        have HP4 := Lib.hid hp4
        have HA4 := Lib.hid ha4
        have H4 := Lib.hid h4
        clear h4 hm4 hp4 ha4
        obtain ⟨ra, rc, rfl, hds⟩ := H4.out.slice
        have HDS := Lib.hid hds; clear hds
        clear hgl hhl hr0 hr1 hmc hmm HDO HRO HPA HRA HBA HNEW HZS ca c0 c1 c2 c3 c4 hz3 HN3 HB3 HR3 HA3 H3 HBS HP HR HB HAP
        go_wp2_with fail
        refine wp_region_held_drew (S := fun w' => Below w4.heap.size w4 w' ∧ w'.cell? ⟨hb, 3, none⟩ = some (.bool E.off) ∧ w'.cell? ⟨hb, 1, none⟩ = some (.slice ra E.data.length rc) ∧ (convert 23 9 (.slice ra E.data.length rc)).run Try.prog w' = .ok (.string ⟨E.data.toArray⟩) w') (by kernel_rfl) ⟨(Below.refl _ _).drew, H4.out.cell.2.2.2.1, H4.out.cell.2.1, run_conv_bs _ 23 9 5 Try.underlying23 Try.underlying5 Try.underlying9 ra _ rc _ HDS.out⟩ (fun hHeld => ?_)
        refine wpAnyH_take (i := 0) (v := ?_) rfl (by kernel_rfl) (by kernel_rfl) (by kernel_rfl) (fun _ _ _ h => h) (Or.inl ⟨by rfl, ?_⟩) (by assumption) ?_
        rotate_left 1
        · (intro w' hSw; (try dsimp only at hSw); obtain ⟨hs0, hs1, hs2, hs3⟩ := hSw; go_simp; try with_reducible rfl)
        try simp only [List.getElem_toArray, List.getElem_cons_zero, Act.put, List.setIfInBounds_toArray, List.set_cons_zero, List.set_cons_succ]
        refine wpAnyH_take (i := 1) (v := ?_) rfl (by kernel_rfl) (by kernel_rfl) (by kernel_rfl) (fun _ _ _ h => h) (Or.inl ⟨by rfl, ?_⟩) (by assumption) ?_
        rotate_left 1
        · (intro w' hSw; (try dsimp only at hSw); obtain ⟨hs0, hs1, hs2, hs3⟩ := hSw; go_simp; try with_reducible rfl)
        try simp only [List.getElem_toArray, List.getElem_cons_succ, List.getElem_cons_zero, Act.put, List.setIfInBounds_toArray, List.set_cons_zero, List.set_cons_succ]
        refine wpAnyH_take (i := 2) (v := ?_) rfl (by kernel_rfl) (by kernel_rfl) (by kernel_rfl) (fun _ _ _ h => h) (Or.inl ⟨by rfl, ?_⟩) (by assumption) ?_
        rotate_left 1
        · (intro w' hSw; (try dsimp only at hSw); obtain ⟨hs0, hs1, hs2, hs3⟩ := hSw; go_simp; try with_reducible rfl)
        try simp only [List.getElem_toArray, List.getElem_cons_succ, List.getElem_cons_zero, Act.put, List.setIfInBounds_toArray, List.set_cons_zero, List.set_cons_succ]
        refine wpAnyH_take (i := 3) (v := ?_) rfl (by kernel_rfl) (by kernel_rfl) (by kernel_rfl) (fun _ _ _ h => h) (Or.inl ⟨by rfl, ?_⟩) (by assumption) ?_
        rotate_left 1
        · (intro w' hSw; (try dsimp only at hSw); obtain ⟨hs0, hs1, hs2, hs3⟩ := hSw; go_simp; try with_reducible rfl)
        try simp only [List.getElem_toArray, List.getElem_cons_succ, List.getElem_cons_zero, Act.put, List.setIfInBounds_toArray, List.set_cons_zero, List.set_cons_succ]
        refine wpAnyH_take (i := 4) (v := ?_) rfl (by kernel_rfl) (by kernel_rfl) (by kernel_rfl) (fun _ _ _ h => h) (Or.inl ⟨by rfl, ?_⟩) (by assumption) ?_
        rotate_left 1
        · (intro w' hSw; (try dsimp only at hSw); obtain ⟨hs0, hs1, hs2, hs3⟩ := hSw; go_simp; try with_reducible rfl)
        try simp only [List.getElem_toArray, List.getElem_cons_succ, List.getElem_cons_zero, Act.put, List.setIfInBounds_toArray, List.set_cons_zero, List.set_cons_succ]
        refine wpAnyH_take (i := 6) (v := ?_) rfl (by kernel_rfl) (by kernel_rfl) (by kernel_rfl) (fun _ _ _ h => h) (Or.inl ⟨by rfl, ?_⟩) (by assumption) ?_
        rotate_left 1
        · (intro w' hSw; (try dsimp only at hSw); obtain ⟨hs0, hs1, hs2, hs3⟩ := hSw; go_simp; try with_reducible rfl)
        try simp only [List.getElem_toArray, List.getElem_cons_succ, List.getElem_cons_zero, Act.put, List.setIfInBounds_toArray, List.set_cons_zero, List.set_cons_succ]
        refine wpAnyH_take (i := 7) (v := ?_) rfl (by kernel_rfl) (by kernel_rfl) (by kernel_rfl) (fun _ _ _ h => h) (Or.inl ⟨by rfl, ?_⟩) (by assumption) ?_
        rotate_left 1
        · (intro w' hSw; (try dsimp only at hSw); obtain ⟨hs0, hs1, hs2, hs3⟩ := hSw; go_simp; try with_reducible rfl)
        try simp only [List.getElem_toArray, List.getElem_cons_succ, List.getElem_cons_zero, Act.put, List.setIfInBounds_toArray, List.set_cons_zero, List.set_cons_succ]
        refine wpAnyH_take (i := 8) (v := ?_) rfl (by kernel_rfl) (by kernel_rfl) (by kernel_rfl) (fun _ _ _ h => h) (Or.inl ⟨by rfl, ?_⟩) (by assumption) ?_
        rotate_left 1
        · (intro w' hSw; (try dsimp only at hSw); obtain ⟨hs0, hs1, hs2, hs3⟩ := hSw; go_simp; try with_reducible rfl)
        try simp only [List.getElem_toArray, List.getElem_cons_succ, List.getElem_cons_zero, Act.put, List.setIfInBounds_toArray, List.set_cons_zero, List.set_cons_succ]
        refine wpAnyH_take (i := 9) (v := ?_) rfl (by kernel_rfl) (by kernel_rfl) (by kernel_rfl) (fun _ _ _ h => h) (Or.inl ⟨by rfl, ?_⟩) (by assumption) ?_
        rotate_left 1
        · (intro w' hSw; (try dsimp only at hSw); obtain ⟨hs0, hs1, hs2, hs3⟩ := hSw; go_simp; try with_reducible rfl)
        try simp only [List.getElem_toArray, List.getElem_cons_succ, List.getElem_cons_zero, Act.put, List.setIfInBounds_toArray, List.set_cons_zero, List.set_cons_succ]
        refine wpAnyH_ready (rs := [5]) (by kernel_rfl) (by simp) ?_
        refine AllReadyH.cons rfl (fun K hK => ?_) AllReadyH.nil
        simp only [List.getElem_toArray, List.getElem_cons_succ, List.getElem_cons_zero]
        go_simp
        refine (Down_any _ _ dv3 _ _ (by exact HP4.out.below hHeld.1)).mono ?_; rintro e w' ⟨rfl, rfl⟩
        go_wp2_with fail
        refine hK.out _ _ (hHeld) (fun hHeld => ?_)
        clear hK K
        try simp only [Act.put, List.setIfInBounds_toArray, List.set_cons_zero, List.set_cons_succ]
        refine wpAnyH_take (i := 10) (v := ?_) rfl (by kernel_rfl) (by kernel_rfl) (by kernel_rfl) (fun _ _ _ h => h) (Or.inl ⟨by rfl, ?_⟩) (by assumption) ?_
        rotate_left 1
        · (intro w' hSw; (try dsimp only at hSw); obtain ⟨hs0, hs1, hs2, hs3⟩ := hSw; go_simp; try with_reducible rfl)
        try simp only [List.getElem_toArray, List.getElem_cons_succ, List.getElem_cons_zero, Act.put, List.setIfInBounds_toArray, List.set_cons_zero, List.set_cons_succ]
        refine wpAnyH_take (i := 11) (v := ?_) rfl (by kernel_rfl) (by kernel_rfl) (by kernel_rfl) (fun _ _ _ h => h) (Or.inl ⟨by rfl, ?_⟩) (by assumption) ?_
        rotate_left 1
        · (intro w' hSw; (try dsimp only at hSw); obtain ⟨hs0, hs1, hs2, hs3⟩ := hSw; go_simp; try with_reducible rfl)
        try simp only [List.getElem_toArray, List.getElem_cons_succ, List.getElem_cons_zero, Act.put, List.setIfInBounds_toArray, List.set_cons_zero, List.set_cons_succ]
        refine wpAnyH_take (i := 12) (v := ?_) rfl (by kernel_rfl) (by kernel_rfl) (by kernel_rfl) (fun _ _ _ h => h) (Or.inl ⟨by rfl, ?_⟩) (by assumption) ?_
        rotate_left 1
        · (intro w' hSw; (try dsimp only at hSw); obtain ⟨hs0, hs1, hs2, hs3⟩ := hSw; go_simp; try with_reducible rfl)
        try simp only [List.getElem_toArray, List.getElem_cons_succ, List.getElem_cons_zero, Act.put, List.setIfInBounds_toArray, List.set_cons_zero, List.set_cons_succ]
        refine wpAnyH_take (i := 13) (v := ?_) rfl (by kernel_rfl) (by kernel_rfl) (by kernel_rfl) (fun _ _ _ h => h) (Or.inl ⟨by rfl, ?_⟩) (by assumption) ?_
        rotate_left 1
        · (intro w' hSw; (try dsimp only at hSw); obtain ⟨hs0, hs1, hs2, hs3⟩ := hSw; go_simp; try with_reducible rfl)
        try simp only [List.getElem_toArray, List.getElem_cons_succ, List.getElem_cons_zero, Act.put, List.setIfInBounds_toArray, List.set_cons_zero, List.set_cons_succ]
        refine wpAnyH_take (i := 16) (v := ?_) rfl (by kernel_rfl) (by kernel_rfl) (by kernel_rfl) (fun _ _ _ h => h) (Or.inl ⟨by rfl, ?_⟩) (by assumption) ?_
        rotate_left 1
        · (intro w' hSw; (try dsimp only at hSw); obtain ⟨hs0, hs1, hs2, hs3⟩ := hSw; go_simp; try with_reducible rfl)
        try simp only [List.getElem_toArray, List.getElem_cons_succ, List.getElem_cons_zero, Act.put, List.setIfInBounds_toArray, List.set_cons_zero, List.set_cons_succ]
        refine wpAnyH_take (i := 17) (v := ?_) rfl (by kernel_rfl) (by kernel_rfl) (by kernel_rfl) (fun _ _ _ h => h) (Or.inl ⟨by rfl, ?_⟩) (by assumption) ?_
        rotate_left 1
        · (intro w' hSw; (try dsimp only at hSw); obtain ⟨hs0, hs1, hs2, hs3⟩ := hSw; go_simp; try with_reducible rfl)
        try simp only [List.getElem_toArray, List.getElem_cons_succ, List.getElem_cons_zero, Act.put, List.setIfInBounds_toArray, List.set_cons_zero, List.set_cons_succ]
        refine wpAnyH_take (i := 18) (v := ?_) rfl (by kernel_rfl) (by kernel_rfl) (by kernel_rfl) (fun _ _ _ h => h) (Or.inl ⟨by rfl, ?_⟩) (by assumption) ?_
        rotate_left 1
        · (intro w' hSw; (try dsimp only at hSw); obtain ⟨hs0, hs1, hs2, hs3⟩ := hSw; go_simp; try with_reducible rfl)
        try simp only [List.getElem_toArray, List.getElem_cons_succ, List.getElem_cons_zero, Act.put, List.setIfInBounds_toArray, List.set_cons_zero, List.set_cons_succ]
        refine wpAnyH_take (i := 19) (v := ?_) rfl (by kernel_rfl) (by kernel_rfl) (by kernel_rfl) (fun _ _ _ h => h) (Or.inl ⟨by rfl, ?_⟩) (by assumption) ?_
        rotate_left 1
        · (intro w' hSw; (try dsimp only at hSw); obtain ⟨hs0, hs1, hs2, hs3⟩ := hSw; go_simp; try with_reducible rfl)
        try simp only [List.getElem_toArray, List.getElem_cons_succ, List.getElem_cons_zero, Act.put, List.setIfInBounds_toArray, List.set_cons_zero, List.set_cons_succ]
        refine wpAnyH_take (i := 20) (v := ?_) rfl (by kernel_rfl) (by kernel_rfl) (by kernel_rfl) (fun _ _ _ h => h) (Or.inl ⟨by rfl, ?_⟩) (by assumption) ?_
        rotate_left 1
        · (intro w' hSw; (try dsimp only at hSw); obtain ⟨hs0, hs1, hs2, hs3⟩ := hSw; go_simp; try with_reducible rfl)
        try simp only [List.getElem_toArray, List.getElem_cons_succ, List.getElem_cons_zero, Act.put, List.setIfInBounds_toArray, List.set_cons_zero, List.set_cons_succ]
        refine wpAnyH_ready (rs := [14]) (by kernel_rfl) (by simp) ?_
        refine AllReadyH.cons rfl (fun K hK => ?_) AllReadyH.nil
        simp only [List.getElem_toArray, List.getElem_cons_succ, List.getElem_cons_zero]
        go_simp
        refine (Bytes_any _ _ dv3 _ _ (by exact HP4.out.below (Below.refl _ _).drew)).mono ?_
        rintro e w5 ⟨a5, c5, rfl, hs5, hb5⟩
        have hbb : Below w4.heap.size w4 w5 := (Below.refl _ _).drew.trans (hb5.mono (Nat.le_refl _))
        go_wp2_with fail
        refine hK.out _ _ (⟨hbb, (H4.out.below hbb).cell.2.2.2.1, (H4.out.below hbb).cell.2.1, run_conv_bs _ 23 9 5 Try.underlying23 Try.underlying5 Try.underlying9 ra _ rc _ (Sl.below HDS.out hbb)⟩) (fun hHeld => ?_)
        clear hK K
        try simp only [Act.put, List.setIfInBounds_toArray, List.set_cons_zero, List.set_cons_succ]
        have hc5 : (convert 23 9 (.slice a5 E.data.length c5)).run Try.prog w5 = .ok (.string ⟨E.data.toArray⟩) w5 := run_conv_bs w5 23 9 5 Try.underlying23 Try.underlying5 Try.underlying9 a5 _ c5 _ hs5
        refine wpAnyH_more (S' := fun w' => (Below w4.heap.size w4 w' ∧ w'.cell? ⟨hb, 3, none⟩ = some (.bool E.off) ∧ w'.cell? ⟨hb, 1, none⟩ = some (.slice ra E.data.length rc) ∧ (convert 23 9 (.slice ra E.data.length rc)).run Try.prog w' = .ok (.string ⟨E.data.toArray⟩) w') ∧ (convert 23 9 (.slice a5 E.data.length c5)).run Try.prog w' = .ok (.string ⟨E.data.toArray⟩) w') (fun _ h => h.1) _ _ _ _ ?_
        have hHeld2 := And.intro hHeld hc5
        refine wpAnyH_take (i := 15) (v := ?_) rfl (by kernel_rfl) (by kernel_rfl) (by kernel_rfl) (fun _ _ _ h => h) (Or.inl ⟨by rfl, ?_⟩) (by assumption) ?_
        rotate_left 1
        · (intro w' hSw; (try dsimp only at hSw); obtain ⟨⟨hs0, hs1, hs2, hs3⟩, hs4⟩ := hSw; go_simp; try with_reducible rfl)
        try simp only [List.getElem_toArray, List.getElem_cons_succ, List.getElem_cons_zero, Act.put, List.setIfInBounds_toArray, List.set_cons_zero, List.set_cons_succ]
        refine wpAnyH_take (i := 21) (v := ?_) rfl (by kernel_rfl) (by kernel_rfl) (by kernel_rfl) (fun _ _ _ h => h) (Or.inl ⟨by rfl, ?_⟩) (by assumption) ?_
        rotate_left 1
        · (intro w' hSw; (try dsimp only at hSw); obtain ⟨⟨hs0, hs1, hs2, hs3⟩, hs4⟩ := hSw; go_simp; try with_reducible rfl)
        try simp only [List.getElem_toArray, List.getElem_cons_succ, List.getElem_cons_zero, Act.put, List.setIfInBounds_toArray, List.set_cons_zero, List.set_cons_succ]
        refine wpAnyH_take (i := 22) (v := ?_) rfl (by kernel_rfl) (by kernel_rfl) (by kernel_rfl) (fun _ _ _ h => h) (Or.inl ⟨by rfl, ?_⟩) (by assumption) ?_
        rotate_left 1
        · (intro w' hSw; (try dsimp only at hSw); obtain ⟨⟨hs0, hs1, hs2, hs3⟩, hs4⟩ := hSw; go_simp; try with_reducible rfl)
        try simp only [List.getElem_toArray, List.getElem_cons_succ, List.getElem_cons_zero, Act.put, List.setIfInBounds_toArray, List.set_cons_zero, List.set_cons_succ]
        refine wpAnyH_done (by kernel_rfl) ?_ _
        clear hHeld hHeld2 hs5 hb5 hc5
        go_wp2_with fail
        go_roundw
        case rel => exact ⟨k + 1, dv3, .slice ra E.data.length rc, E, by omega, by go_num, HB4.out.trans (hbb.mono HB4.out.size), HP4.out.below hbb, H4.out.below hbb, HA4.out.symm⟩
        case measure => simp [intOf]; omega
      by_cases k1 : kd = 1
      · subst k1
        have halloc : Below wr.heap.size wr (wr.alloc (.cells #[.int .i64 1, .int .i64 nn, .slice x m q] 52)) := Below.allocR _ _
        have HPA := Lib.hid (HP.out.below halloc)
        have HRA := Lib.hid (HR.out.below halloc)
        have HBA : Hid (Below w.heap.size w (wr.alloc (.cells #[.int .i64 1, .int .i64 nn, .slice x m q] 52))) := HB.out.trans (halloc.mono HB.out.size)
        have hnew : (wr.alloc (.cells #[.int .i64 1, .int .i64 nn, .slice x m q] 52)).heap[wr.heap.size]? = some (.cells #[.int .i64 1, .int .i64 nn, .slice x m q] 52 (0, 0)) := heap_alloc_new wr _
        have hzs : (wr.alloc (.cells #[.int .i64 1, .int .i64 nn, .slice x m q] 52)).heap.size = wr.heap.size + 1 := by simp
        have HNEW := Lib.hid hnew; clear hnew
        have HZS := Lib.hid hzs; clear hzs halloc
        go_wp2_with fail
        generalize wr.alloc (.cells #[.int .i64 1, .int .i64 nn, .slice x m q] 52) = wa at *
        have ca : wa.cell? ⟨wr.heap.size, 1, none⟩ = some (.int .i64 nn) := by rw [cell_of_row wa wr.heap.size 1 _ 52 (0, 0) HNEW.out]; rfl
        obtain ⟨E, hE⟩ : ∃ E, Hid (E = (D.trunc nn).1) := ⟨_, rfl⟩
        obtain ⟨ez, hez⟩ : ∃ ez : Nat, Hid (ez = (D.trunc nn).2) := ⟨_, rfl⟩
        have HPA := Lib.hid (HPA.out.below (Below.refl _ _).drew)
        have HRA := Lib.hid (HRA.out.below (Below.refl _ _).drew)
        have HBA : Hid (Below w.heap.size w wa.drew) := HBA.out.drew
        have HNEW : Hid (wa.drew.heap[wr.heap.size]? = _) := HNEW.out
        have HZS : Hid (wa.drew.heap.size = wr.heap.size + 1) := HZS.out
        go_region_held3 (fun (w' : World) => w'.cell? ⟨wr.heap.size, 1, none⟩ = some (.int .i64 nn)) (assumption) (first
          | (go_at_call 35; refine (Truncate_any _ _ dv D _ HPA.out nn).mono ?_
             rintro e w3 ⟨rfl, dv3, h3, hm3⟩
             rw [← hE.out] at h3
             rw [← hez.out]
             obtain ⟨hr3, ha3⟩ := Dev.movedP HPA.out HRA.out HAP.out hm3
             have hn3 : w3.heap[wr.heap.size]? = some (.cells #[.int .i64 1, .int .i64 nn, .slice x m q] 52 (0, 0)) := (hm3.block _ (by have := HZS.out; omega) (by omega) (fun e => by have := HDO.out _ e.symm; omega)).trans HNEW.out
             have HB3 : Hid (Below w.heap.size w w3) := HBA.out.trans (hm3.below HPA.out.low (fun j hj => (HPA.out.own.lt j hj).1) HBA.out.size)
             have hz3 : wr.heap.size < w3.heap.size := by have := HZS.out; have := hm3.size; omega
             have c3 : w3.cell? ⟨wr.heap.size, 1, none⟩ = some (.int .i64 nn) := by rw [cell_of_row w3 wr.heap.size 1 _ 52 (0, 0) hn3]; rfl
             have HR3 := Lib.hid hr3
             have HA3 := Lib.hid ha3
             have H3 := Lib.hid h3
             have HN3 := Lib.hid hn3
             clear h3 hm3 hr3 ha3 hn3)
          | (go_at_call 41; refine (RTruncate_any _ _ rv D _ HR3.out nn).mono ?_
             rintro e w4 ⟨rfl, rv4, h4, hm4⟩
             rw [← hE.out] at h4
             rw [← hez.out]
             obtain ⟨hp4, ha4⟩ := Dev.movedP HR3.out H3.out HA3.out.symm hm4
             have HB4 : Hid (Below w.heap.size w w4) := HB3.out.trans (hm4.below HR3.out.low (fun j hj => (HR3.out.own.lt j hj).1) HB3.out.size)
             have c4 : w4.cell? ⟨wr.heap.size, 1, none⟩ = some (.int .i64 nn) := by rw [cell_of_row w4 wr.heap.size 1 _ 52 (0, 0) ((hm4.block _ hz3 (by omega) (fun e => by have := HRO.out _ e.symm; omega)).trans HN3.out)]; rfl
             have HP4 := Lib.hid hp4
             have HA4 := Lib.hid ha4
             have H4 := Lib.hid h4
             clear h4 hm4 hp4 ha4))
        obtain ⟨ra, rc, rfl, hds⟩ := H4.out.slice
        have HDS := Lib.hid hds; clear hds
        clear hgl hhl hr0 hr1 hmc hmm HDO HRO HPA HRA HBA HNEW HZS ca c0 c1 c2 c3 c4 hz3 HN3 HB3 HR3 HA3 H3 HBS HP HR HB HAP
        go_wp2_with fail
        refine wp_region_held_drew (S := fun w' => Below w4.heap.size w4 w' ∧ w'.cell? ⟨hb, 3, none⟩ = some (.bool E.off) ∧ w'.cell? ⟨hb, 1, none⟩ = some (.slice ra E.data.length rc) ∧ (convert 23 9 (.slice ra E.data.length rc)).run Try.prog w' = .ok (.string ⟨E.data.toArray⟩) w') (by kernel_rfl) ⟨(Below.refl _ _).drew, H4.out.cell.2.2.2.1, H4.out.cell.2.1, run_conv_bs _ 23 9 5 Try.underlying23 Try.underlying5 Try.underlying9 ra _ rc _ HDS.out⟩ (fun hHeld => ?_)
        refine wpAnyH_take (i := 0) (v := ?_) rfl (by kernel_rfl) (by kernel_rfl) (by kernel_rfl) (fun _ _ _ h => h) (Or.inl ⟨by rfl, ?_⟩) (by assumption) ?_
        rotate_left 1
        · (intro w' hSw; (try dsimp only at hSw); obtain ⟨hs0, hs1, hs2, hs3⟩ := hSw; go_simp; try with_reducible rfl)
        try simp only [List.getElem_toArray, List.getElem_cons_zero, Act.put, List.setIfInBounds_toArray, List.set_cons_zero, List.set_cons_succ]
        refine wpAnyH_take (i := 1) (v := ?_) rfl (by kernel_rfl) (by kernel_rfl) (by kernel_rfl) (fun _ _ _ h => h) (Or.inl ⟨by rfl, ?_⟩) (by assumption) ?_
        rotate_left 1
        · (intro w' hSw; (try dsimp only at hSw); obtain ⟨hs0, hs1, hs2, hs3⟩ := hSw; go_simp; try with_reducible rfl)
        try simp only [List.getElem_toArray, List.getElem_cons_succ, List.getElem_cons_zero, Act.put, List.setIfInBounds_toArray, List.set_cons_zero, List.set_cons_succ]
        refine wpAnyH_take (i := 2) (v := ?_) rfl (by kernel_rfl) (by kernel_rfl) (by kernel_rfl) (fun _ _ _ h => h) (Or.inl ⟨by rfl, ?_⟩) (by assumption) ?_
        rotate_left 1
        · (intro w' hSw; (try dsimp only at hSw); obtain ⟨hs0, hs1, hs2, hs3⟩ := hSw; go_simp; try with_reducible rfl)
        try simp only [List.getElem_toArray, List.getElem_cons_succ, List.getElem_cons_zero, Act.put, List.setIfInBounds_toArray, List.set_cons_zero, List.set_cons_succ]
        refine wpAnyH_take (i := 3) (v := ?_) rfl (by kernel_rfl) (by kernel_rfl) (by kernel_rfl) (fun _ _ _ h => h) (Or.inl ⟨by rfl, ?_⟩) (by assumption) ?_
        rotate_left 1
        · (intro w' hSw; (try dsimp only at hSw); obtain ⟨hs0, hs1, hs2, hs3⟩ := hSw; go_simp; try with_reducible rfl)
        try simp only [List.getElem_toArray, List.getElem_cons_succ, List.getElem_cons_zero, Act.put, List.setIfInBounds_toArray, List.set_cons_zero, List.set_cons_succ]
        refine wpAnyH_take (i := 4) (v := ?_) rfl (by kernel_rfl) (by kernel_rfl) (by kernel_rfl) (fun _ _ _ h => h) (Or.inl ⟨by rfl, ?_⟩) (by assumption) ?_
        rotate_left 1
        · (intro w' hSw; (try dsimp only at hSw); obtain ⟨hs0, hs1, hs2, hs3⟩ := hSw; go_simp; try with_reducible rfl)
        try simp only [List.getElem_toArray, List.getElem_cons_succ, List.getElem_cons_zero, Act.put, List.setIfInBounds_toArray, List.set_cons_zero, List.set_cons_succ]
        refine wpAnyH_take (i := 6) (v := ?_) rfl (by kernel_rfl) (by kernel_rfl) (by kernel_rfl) (fun _ _ _ h => h) (Or.inl ⟨by rfl, ?_⟩) (by assumption) ?_
        rotate_left 1
        · (intro w' hSw; (try dsimp only at hSw); obtain ⟨hs0, hs1, hs2, hs3⟩ := hSw; go_simp; try with_reducible rfl)
        try simp only [List.getElem_toArray, List.getElem_cons_succ, List.getElem_cons_zero, Act.put, List.setIfInBounds_toArray, List.set_cons_zero, List.set_cons_succ]
        refine wpAnyH_take (i := 7) (v := ?_) rfl (by kernel_rfl) (by kernel_rfl) (by kernel_rfl) (fun _ _ _ h => h) (Or.inl ⟨by rfl, ?_⟩) (by assumption) ?_
        rotate_left 1
        · (intro w' hSw; (try dsimp only at hSw); obtain ⟨hs0, hs1, hs2, hs3⟩ := hSw; go_simp; try with_reducible rfl)
        try simp only [List.getElem_toArray, List.getElem_cons_succ, List.getElem_cons_zero, Act.put, List.setIfInBounds_toArray, List.set_cons_zero, List.set_cons_succ]
        refine wpAnyH_take (i := 8) (v := ?_) rfl (by kernel_rfl) (by kernel_rfl) (by kernel_rfl) (fun _ _ _ h => h) (Or.inl ⟨by rfl, ?_⟩) (by assumption) ?_
        rotate_left 1
        · (intro w' hSw; (try dsimp only at hSw); obtain ⟨hs0, hs1, hs2, hs3⟩ := hSw; go_simp; try with_reducible rfl)
        try simp only [List.getElem_toArray, List.getElem_cons_succ, List.getElem_cons_zero, Act.put, List.setIfInBounds_toArray, List.set_cons_zero, List.set_cons_succ]
        refine wpAnyH_take (i := 9) (v := ?_) rfl (by kernel_rfl) (by kernel_rfl) (by kernel_rfl) (fun _ _ _ h => h) (Or.inl ⟨by rfl, ?_⟩) (by assumption) ?_
        rotate_left 1
        · (intro w' hSw; (try dsimp only at hSw); obtain ⟨hs0, hs1, hs2, hs3⟩ := hSw; go_simp; try with_reducible rfl)
        try simp only [List.getElem_toArray, List.getElem_cons_succ, List.getElem_cons_zero, Act.put, List.setIfInBounds_toArray, List.set_cons_zero, List.set_cons_succ]
        refine wpAnyH_ready (rs := [5]) (by kernel_rfl) (by simp) ?_
        refine AllReadyH.cons rfl (fun K hK => ?_) AllReadyH.nil
        simp only [List.getElem_toArray, List.getElem_cons_succ, List.getElem_cons_zero]
        go_simp
        refine (Down_any _ _ dv3 _ _ (by exact HP4.out.below hHeld.1)).mono ?_; rintro e w' ⟨rfl, rfl⟩
        go_wp2_with fail
        refine hK.out _ _ (hHeld) (fun hHeld => ?_)
        clear hK K
        try simp only [Act.put, List.setIfInBounds_toArray, List.set_cons_zero, List.set_cons_succ]
        refine wpAnyH_take (i := 10) (v := ?_) rfl (by kernel_rfl) (by kernel_rfl) (by kernel_rfl) (fun _ _ _ h => h) (Or.inl ⟨by rfl, ?_⟩) (by assumption) ?_
        rotate_left 1
        · (intro w' hSw; (try dsimp only at hSw); obtain ⟨hs0, hs1, hs2, hs3⟩ := hSw; go_simp; try with_reducible rfl)
        try simp only [List.getElem_toArray, List.getElem_cons_succ, List.getElem_cons_zero, Act.put, List.setIfInBounds_toArray, List.set_cons_zero, List.set_cons_succ]
        refine wpAnyH_take (i := 11) (v := ?_) rfl (by kernel_rfl) (by kernel_rfl) (by kernel_rfl) (fun _ _ _ h => h) (Or.inl ⟨by rfl, ?_⟩) (by assumption) ?_
        rotate_left 1
        · (intro w' hSw; (try dsimp only at hSw); obtain ⟨hs0, hs1, hs2, hs3⟩ := hSw; go_simp; try with_reducible rfl)
        try simp only [List.getElem_toArray, List.getElem_cons_succ, List.getElem_cons_zero, Act.put, List.setIfInBounds_toArray, List.set_cons_zero, List.set_cons_succ]
        refine wpAnyH_take (i := 12) (v := ?_) rfl (by kernel_rfl) (by kernel_rfl) (by kernel_rfl) (fun _ _ _ h => h) (Or.inl ⟨by rfl, ?_⟩) (by assumption) ?_
        rotate_left 1
        · (intro w' hSw; (try dsimp only at hSw); obtain ⟨hs0, hs1, hs2, hs3⟩ := hSw; go_simp; try with_reducible rfl)
        try simp only [List.getElem_toArray, List.getElem_cons_succ, List.getElem_cons_zero, Act.put, List.setIfInBounds_toArray, List.set_cons_zero, List.set_cons_succ]
        refine wpAnyH_take (i := 13) (v := ?_) rfl (by kernel_rfl) (by kernel_rfl) (by kernel_rfl) (fun _ _ _ h => h) (Or.inl ⟨by rfl, ?_⟩) (by assumption) ?_
        rotate_left 1
        · (intro w' hSw; (try dsimp only at hSw); obtain ⟨hs0, hs1, hs2, hs3⟩ := hSw; go_simp; try with_reducible rfl)
        try simp only [List.getElem_toArray, List.getElem_cons_succ, List.getElem_cons_zero, Act.put, List.setIfInBounds_toArray, List.set_cons_zero, List.set_cons_succ]
        refine wpAnyH_take (i := 16) (v := ?_) rfl (by kernel_rfl) (by kernel_rfl) (by kernel_rfl) (fun _ _ _ h => h) (Or.inl ⟨by rfl, ?_⟩) (by assumption) ?_
        rotate_left 1
        · (intro w' hSw; (try dsimp only at hSw); obtain ⟨hs0, hs1, hs2, hs3⟩ := hSw; go_simp; try with_reducible rfl)
        try simp only [List.getElem_toArray, List.getElem_cons_succ, List.getElem_cons_zero, Act.put, List.setIfInBounds_toArray, List.set_cons_zero, List.set_cons_succ]
        refine wpAnyH_take (i := 17) (v := ?_) rfl (by kernel_rfl) (by kernel_rfl) (by kernel_rfl) (fun _ _ _ h => h) (Or.inl ⟨by rfl, ?_⟩) (by assumption) ?_
        rotate_left 1
        · (intro w' hSw; (try dsimp only at hSw); obtain ⟨hs0, hs1, hs2, hs3⟩ := hSw; go_simp; try with_reducible rfl)
        try simp only [List.getElem_toArray, List.getElem_cons_succ, List.getElem_cons_zero, Act.put, List.setIfInBounds_toArray, List.set_cons_zero, List.set_cons_succ]
        refine wpAnyH_take (i := 18) (v := ?_) rfl (by kernel_rfl) (by kernel_rfl) (by kernel_rfl) (fun _ _ _ h => h) (Or.inl ⟨by rfl, ?_⟩) (by assumption) ?_
        rotate_left 1
        · (intro w' hSw; (try dsimp only at hSw); obtain ⟨hs0, hs1, hs2, hs3⟩ := hSw; go_simp; try with_reducible rfl)
        try simp only [List.getElem_toArray, List.getElem_cons_succ, List.getElem_cons_zero, Act.put, List.setIfInBounds_toArray, List.set_cons_zero, List.set_cons_succ]
        refine wpAnyH_take (i := 19) (v := ?_) rfl (by kernel_rfl) (by kernel_rfl) (by kernel_rfl) (fun _ _ _ h => h) (Or.inl ⟨by rfl, ?_⟩) (by assumption) ?_
        rotate_left 1
        · (intro w' hSw; (try dsimp only at hSw); obtain ⟨hs0, hs1, hs2, hs3⟩ := hSw; go_simp; try with_reducible rfl)
        try simp only [List.getElem_toArray, List.getElem_cons_succ, List.getElem_cons_zero, Act.put, List.setIfInBounds_toArray, List.set_cons_zero, List.set_cons_succ]
        refine wpAnyH_take (i := 20) (v := ?_) rfl (by kernel_rfl) (by kernel_rfl) (by kernel_rfl) (fun _ _ _ h => h) (Or.inl ⟨by rfl, ?_⟩) (by assumption) ?_
        rotate_left 1
        · (intro w' hSw; (try dsimp only at hSw); obtain ⟨hs0, hs1, hs2, hs3⟩ := hSw; go_simp; try with_reducible rfl)
        try simp only [List.getElem_toArray, List.getElem_cons_succ, List.getElem_cons_zero, Act.put, List.setIfInBounds_toArray, List.set_cons_zero, List.set_cons_succ]
        refine wpAnyH_ready (rs := [14]) (by kernel_rfl) (by simp) ?_
        refine AllReadyH.cons rfl (fun K hK => ?_) AllReadyH.nil
        simp only [List.getElem_toArray, List.getElem_cons_succ, List.getElem_cons_zero]
        go_simp
        refine (Bytes_any _ _ dv3 _ _ (by exact HP4.out.below (Below.refl _ _).drew)).mono ?_
        rintro e w5 ⟨a5, c5, rfl, hs5, hb5⟩
        have hbb : Below w4.heap.size w4 w5 := (Below.refl _ _).drew.trans (hb5.mono (Nat.le_refl _))
        go_wp2_with fail
        refine hK.out _ _ (⟨hbb, (H4.out.below hbb).cell.2.2.2.1, (H4.out.below hbb).cell.2.1, run_conv_bs _ 23 9 5 Try.underlying23 Try.underlying5 Try.underlying9 ra _ rc _ (Sl.below HDS.out hbb)⟩) (fun hHeld => ?_)
        clear hK K
        try simp only [Act.put, List.setIfInBounds_toArray, List.set_cons_zero, List.set_cons_succ]
        have hc5 : (convert 23 9 (.slice a5 E.data.length c5)).run Try.prog w5 = .ok (.string ⟨E.data.toArray⟩) w5 := run_conv_bs w5 23 9 5 Try.underlying23 Try.underlying5 Try.underlying9 a5 _ c5 _ hs5
        refine wpAnyH_more (S' := fun w' => (Below w4.heap.size w4 w' ∧ w'.cell? ⟨hb, 3, none⟩ = some (.bool E.off) ∧ w'.cell? ⟨hb, 1, none⟩ = some (.slice ra E.data.length rc) ∧ (convert 23 9 (.slice ra E.data.length rc)).run Try.prog w' = .ok (.string ⟨E.data.toArray⟩) w') ∧ (convert 23 9 (.slice a5 E.data.length c5)).run Try.prog w' = .ok (.string ⟨E.data.toArray⟩) w') (fun _ h => h.1) _ _ _ _ ?_
        have hHeld2 := And.intro hHeld hc5
        refine wpAnyH_take (i := 15) (v := ?_) rfl (by kernel_rfl) (by kernel_rfl) (by kernel_rfl) (fun _ _ _ h => h) (Or.inl ⟨by rfl, ?_⟩) (by assumption) ?_
        rotate_left 1
        · (intro w' hSw; (try dsimp only at hSw); obtain ⟨⟨hs0, hs1, hs2, hs3⟩, hs4⟩ := hSw; go_simp; try with_reducible rfl)
        try simp only [List.getElem_toArray, List.getElem_cons_succ, List.getElem_cons_zero, Act.put, List.setIfInBounds_toArray, List.set_cons_zero, List.set_cons_succ]
        refine wpAnyH_take (i := 21) (v := ?_) rfl (by kernel_rfl) (by kernel_rfl) (by kernel_rfl) (fun _ _ _ h => h) (Or.inl ⟨by rfl, ?_⟩) (by assumption) ?_
        rotate_left 1
        · (intro w' hSw; (try dsimp only at hSw); obtain ⟨⟨hs0, hs1, hs2, hs3⟩, hs4⟩ := hSw; go_simp; try with_reducible rfl)
        try simp only [List.getElem_toArray, List.getElem_cons_succ, List.getElem_cons_zero, Act.put, List.setIfInBounds_toArray, List.set_cons_zero, List.set_cons_succ]
        refine wpAnyH_take (i := 22) (v := ?_) rfl (by kernel_rfl) (by kernel_rfl) (by kernel_rfl) (fun _ _ _ h => h) (Or.inl ⟨by rfl, ?_⟩) (by assumption) ?_
        rotate_left 1
        · (intro w' hSw; (try dsimp only at hSw); obtain ⟨⟨hs0, hs1, hs2, hs3⟩, hs4⟩ := hSw; go_simp; try with_reducible rfl)
        try simp only [List.getElem_toArray, List.getElem_cons_succ, List.getElem_cons_zero, Act.put, List.setIfInBounds_toArray, List.set_cons_zero, List.set_cons_succ]
        refine wpAnyH_done (by kernel_rfl) ?_ _
        clear hHeld hHeld2 hs5 hb5 hc5
        go_wp2_with fail
        go_roundw
        case rel => exact ⟨k + 1, dv3, .slice ra E.data.length rc, E, by omega, by go_num, HB4.out.trans (hbb.mono HB4.out.size), HP4.out.below hbb, H4.out.below hbb, HA4.out.symm⟩
        case measure => simp [intOf]; omega
      by_cases k2 : kd = 2
      · subst k2
        have halloc : Below wr.heap.size wr (wr.alloc (.cells #[.int .i64 2, .int .i64 nn, .slice x m q] 52)) := Below.allocR _ _
        have HPA := Lib.hid (HP.out.below halloc)
        have HRA := Lib.hid (HR.out.below halloc)
        have HBA : Hid (Below w.heap.size w (wr.alloc (.cells #[.int .i64 2, .int .i64 nn, .slice x m q] 52))) := HB.out.trans (halloc.mono HB.out.size)
        have hnew : (wr.alloc (.cells #[.int .i64 2, .int .i64 nn, .slice x m q] 52)).heap[wr.heap.size]? = some (.cells #[.int .i64 2, .int .i64 nn, .slice x m q] 52 (0, 0)) := heap_alloc_new wr _
        have hzs : (wr.alloc (.cells #[.int .i64 2, .int .i64 nn, .slice x m q] 52)).heap.size = wr.heap.size + 1 := by simp
        have HNEW := Lib.hid hnew; clear hnew
        have HZS := Lib.hid hzs; clear hzs halloc
        go_wp2_with fail
        generalize wr.alloc (.cells #[.int .i64 2, .int .i64 nn, .slice x m q] 52) = wa at *
        have ca : wa.cell? ⟨wr.heap.size, 1, none⟩ = some (.int .i64 nn) := by rw [cell_of_row wa wr.heap.size 1 _ 52 (0, 0) HNEW.out]; rfl
        obtain ⟨E, hE⟩ : ∃ E, Hid (E = D.crash nn) := ⟨_, rfl⟩
        refine (Crash_any _ _ dv D _ HPA.out nn).mono ?_
        rintro e w3 ⟨rfl, dv3, h3, hm3⟩
        rw [← hE.out] at h3
        obtain ⟨hr3, ha3⟩ := Dev.movedP HPA.out HRA.out HAP.out hm3
        have hn3 : w3.heap[wr.heap.size]? = some (.cells #[.int .i64 2, .int .i64 nn, .slice x m q] 52 (0, 0)) := (hm3.block _ (by have := HZS.out; omega) (by omega) (fun e => by have := HDO.out _ e.symm; omega)).trans HNEW.out
        have HB3 : Hid (Below w.heap.size w w3) := HBA.out.trans (hm3.below HPA.out.low (fun j hj => (HPA.out.own.lt j hj).1) HBA.out.size)
        have hz3 : wr.heap.size < w3.heap.size := by have := HZS.out; have := hm3.size; omega
        have c3 : w3.cell? ⟨wr.heap.size, 1, none⟩ = some (.int .i64 nn) := by rw [cell_of_row w3 wr.heap.size 1 _ 52 (0, 0) hn3]; rfl
        have HR3 := Lib.hid hr3
        have HA3 := Lib.hid ha3
        have H3 := Lib.hid h3
        have HN3 := Lib.hid hn3
        clear h3 hm3 hr3 ha3 hn3
        go_wp2_with fail
        refine (RCrash_any _ _ rv D _ HR3.out nn).mono ?_
        rintro e w4 ⟨rfl, rv4, h4, hm4⟩
        rw [← hE.out] at h4
        obtain ⟨hp4, ha4⟩ := Dev.movedP HR3.out H3.out HA3.out.symm hm4
        have HB4 : Hid (Below w.heap.size w w4) := HB3.out.trans (hm4.below HR3.out.low (fun j hj => (HR3.out.own.lt j hj).1) HB3.out.size)
        have c4 : w4.cell? ⟨wr.heap.size, 1, none⟩ = some (.int .i64 nn) := by rw [cell_of_row w4 wr.heap.size 1 _ 52 (0, 0) ((hm4.block _ hz3 (by omega) (fun e => by have := HRO.out _ e.symm; omega)).trans HN3.out)]; rfl
        have HP4 := Lib.hid hp4
        have HA4 := Lib.hid ha4
        have H4 := Lib.hid h4
        clear h4 hm4 hp4 ha4
        obtain ⟨ra, rc, rfl, hds⟩ := H4.out.slice
        have HDS := Lib.hid hds; clear hds
        clear hgl hhl hr0 hr1 hmc hmm HDO HRO HPA HRA HBA HNEW HZS ca c0 c1 c2 c3 c4 hz3 HN3 HB3 HR3 HA3 H3 HBS HP HR HB HAP
        go_wp2_with fail
        refine wp_region_held_drew (S := fun w' => Below w4.heap.size w4 w' ∧ w'.cell? ⟨hb, 3, none⟩ = some (.bool E.off) ∧ w'.cell? ⟨hb, 1, none⟩ = some (.slice ra E.data.length rc) ∧ (convert 23 9 (.slice ra E.data.length rc)).run Try.prog w' = .ok (.string ⟨E.data.toArray⟩) w') (by kernel_rfl) ⟨(Below.refl _ _).drew, H4.out.cell.2.2.2.1, H4.out.cell.2.1, run_conv_bs _ 23 9 5 Try.underlying23 Try.underlying5 Try.underlying9 ra _ rc _ HDS.out⟩ (fun hHeld => ?_)
        refine wpAnyH_take (i := 0) (v := ?_) rfl (by kernel_rfl) (by kernel_rfl) (by kernel_rfl) (fun _ _ _ h => h) (Or.inl ⟨by rfl, ?_⟩) (by assumption) ?_
        rotate_left 1
        · (intro w' hSw; (try dsimp only at hSw); obtain ⟨hs0, hs1, hs2, hs3⟩ := hSw; go_simp; try with_reducible rfl)
        try simp only [List.getElem_toArray, List.getElem_cons_zero, Act.put, List.setIfInBounds_toArray, List.set_cons_zero, List.set_cons_succ]
        refine wpAnyH_take (i := 1) (v := ?_) rfl (by kernel_rfl) (by kernel_rfl) (by kernel_rfl) (fun _ _ _ h => h) (Or.inl ⟨by rfl, ?_⟩) (by assumption) ?_
        rotate_left 1
        · (intro w' hSw; (try dsimp only at hSw); obtain ⟨hs0, hs1, hs2, hs3⟩ := hSw; go_simp; try with_reducible rfl)
        try simp only [List.getElem_toArray, List.getElem_cons_succ, List.getElem_cons_zero, Act.put, List.setIfInBounds_toArray, List.set_cons_zero, List.set_cons_succ]
        refine wpAnyH_take (i := 2) (v := ?_) rfl (by kernel_rfl) (by kernel_rfl) (by kernel_rfl) (fun _ _ _ h => h) (Or.inl ⟨by rfl, ?_⟩) (by assumption) ?_
        rotate_left 1
        · (intro w' hSw; (try dsimp only at hSw); obtain ⟨hs0, hs1, hs2, hs3⟩ := hSw; go_simp; try with_reducible rfl)
        try simp only [List.getElem_toArray, List.getElem_cons_succ, List.getElem_cons_zero, Act.put, List.setIfInBounds_toArray, List.set_cons_zero, List.set_cons_succ]
        refine wpAnyH_take (i := 3) (v := ?_) rfl (by kernel_rfl) (by kernel_rfl) (by kernel_rfl) (fun _ _ _ h => h) (Or.inl ⟨by rfl, ?_⟩) (by assumption) ?_
        rotate_left 1
        · (intro w' hSw; (try dsimp only at hSw); obtain ⟨hs0, hs1, hs2, hs3⟩ := hSw; go_simp; try with_reducible rfl)
        try simp only [List.getElem_toArray, List.getElem_cons_succ, List.getElem_cons_zero, Act.put, List.setIfInBounds_toArray, List.set_cons_zero, List.set_cons_succ]
        refine wpAnyH_take (i := 4) (v := ?_) rfl (by kernel_rfl) (by kernel_rfl) (by kernel_rfl) (fun _ _ _ h => h) (Or.inl ⟨by rfl, ?_⟩) (by assumption) ?_
        rotate_left 1
        · (intro w' hSw; (try dsimp only at hSw); obtain ⟨hs0, hs1, hs2, hs3⟩ := hSw; go_simp; try with_reducible rfl)
        try simp only [List.getElem_toArray, List.getElem_cons_succ, List.getElem_cons_zero, Act.put, List.setIfInBounds_toArray, List.set_cons_zero, List.set_cons_succ]
        refine wpAnyH_take (i := 6) (v := ?_) rfl (by kernel_rfl) (by kernel_rfl) (by kernel_rfl) (fun _ _ _ h => h) (Or.inl ⟨by rfl, ?_⟩) (by assumption) ?_
        rotate_left 1
        · (intro w' hSw; (try dsimp only at hSw); obtain ⟨hs0, hs1, hs2, hs3⟩ := hSw; go_simp; try with_reducible rfl)
        try simp only [List.getElem_toArray, List.getElem_cons_succ, List.getElem_cons_zero, Act.put, List.setIfInBounds_toArray, List.set_cons_zero, List.set_cons_succ]
        refine wpAnyH_take (i := 7) (v := ?_) rfl (by kernel_rfl) (by kernel_rfl) (by kernel_rfl) (fun _ _ _ h => h) (Or.inl ⟨by rfl, ?_⟩) (by assumption) ?_
        rotate_left 1
        · (intro w' hSw; (try dsimp only at hSw); obtain ⟨hs0, hs1, hs2, hs3⟩ := hSw; go_simp; try with_reducible rfl)
        try simp only [List.getElem_toArray, List.getElem_cons_succ, List.getElem_cons_zero, Act.put, List.setIfInBounds_toArray, List.set_cons_zero, List.set_cons_succ]
        refine wpAnyH_take (i := 8) (v := ?_) rfl (by kernel_rfl) (by kernel_rfl) (by kernel_rfl) (fun _ _ _ h => h) (Or.inl ⟨by rfl, ?_⟩) (by assumption) ?_
        rotate_left 1
        · (intro w' hSw; (try dsimp only at hSw); obtain ⟨hs0, hs1, hs2, hs3⟩ := hSw; go_simp; try with_reducible rfl)
        try simp only [List.getElem_toArray, List.getElem_cons_succ, List.getElem_cons_zero, Act.put, List.setIfInBounds_toArray, List.set_cons_zero, List.set_cons_succ]
        refine wpAnyH_take (i := 9) (v := ?_) rfl (by kernel_rfl) (by kernel_rfl) (by kernel_rfl) (fun _ _ _ h => h) (Or.inl ⟨by rfl, ?_⟩) (by assumption) ?_
        rotate_left 1
        · (intro w' hSw; (try dsimp only at hSw); obtain ⟨hs0, hs1, hs2, hs3⟩ := hSw; go_simp; try with_reducible rfl)
        try simp only [List.getElem_toArray, List.getElem_cons_succ, List.getElem_cons_zero, Act.put, List.setIfInBounds_toArray, List.set_cons_zero, List.set_cons_succ]
        refine wpAnyH_ready (rs := [5]) (by kernel_rfl) (by simp) ?_
        refine AllReadyH.cons rfl (fun K hK => ?_) AllReadyH.nil
        simp only [List.getElem_toArray, List.getElem_cons_succ, List.getElem_cons_zero]
        go_simp
        refine (Down_any _ _ dv3 _ _ (by exact HP4.out.below hHeld.1)).mono ?_; rintro e w' ⟨rfl, rfl⟩
        go_wp2_with fail
        refine hK.out _ _ (hHeld) (fun hHeld => ?_)
        clear hK K
        try simp only [Act.put, List.setIfInBounds_toArray, List.set_cons_zero, List.set_cons_succ]
        refine wpAnyH_take (i := 10) (v := ?_) rfl (by kernel_rfl) (by kernel_rfl) (by kernel_rfl) (fun _ _ _ h => h) (Or.inl ⟨by rfl, ?_⟩) (by assumption) ?_
        rotate_left 1
        · (intro w' hSw; (try dsimp only at hSw); obtain ⟨hs0, hs1, hs2, hs3⟩ := hSw; go_simp; try with_reducible rfl)
        try simp only [List.getElem_toArray, List.getElem_cons_succ, List.getElem_cons_zero, Act.put, List.setIfInBounds_toArray, List.set_cons_zero, List.set_cons_succ]
        refine wpAnyH_take (i := 11) (v := ?_) rfl (by kernel_rfl) (by kernel_rfl) (by kernel_rfl) (fun _ _ _ h => h) (Or.inl ⟨by rfl, ?_⟩) (by assumption) ?_
        rotate_left 1
        · (intro w' hSw; (try dsimp only at hSw); obtain ⟨hs0, hs1, hs2, hs3⟩ := hSw; go_simp; try with_reducible rfl)
        try simp only [List.getElem_toArray, List.getElem_cons_succ, List.getElem_cons_zero, Act.put, List.setIfInBounds_toArray, List.set_cons_zero, List.set_cons_succ]
        refine wpAnyH_take (i := 12) (v := ?_) rfl (by kernel_rfl) (by kernel_rfl) (by kernel_rfl) (fun _ _ _ h => h) (Or.inl ⟨by rfl, ?_⟩) (by assumption) ?_
        rotate_left 1
        · (intro w' hSw; (try dsimp only at hSw); obtain ⟨hs0, hs1, hs2, hs3⟩ := hSw; go_simp; try with_reducible rfl)
        try simp only [List.getElem_toArray, List.getElem_cons_succ, List.getElem_cons_zero, Act.put, List.setIfInBounds_toArray, List.set_cons_zero, List.set_cons_succ]
        refine wpAnyH_take (i := 13) (v := ?_) rfl (by kernel_rfl) (by kernel_rfl) (by kernel_rfl) (fun _ _ _ h => h) (Or.inl ⟨by rfl, ?_⟩) (by assumption) ?_
        rotate_left 1
        · (intro w' hSw; (try dsimp only at hSw); obtain ⟨hs0, hs1, hs2, hs3⟩ := hSw; go_simp; try with_reducible rfl)
        try simp only [List.getElem_toArray, List.getElem_cons_succ, List.getElem_cons_zero, Act.put, List.setIfInBounds_toArray, List.set_cons_zero, List.set_cons_succ]
        refine wpAnyH_take (i := 16) (v := ?_) rfl (by kernel_rfl) (by kernel_rfl) (by kernel_rfl) (fun _ _ _ h => h) (Or.inl ⟨by rfl, ?_⟩) (by assumption) ?_
        rotate_left 1
        · (intro w' hSw; (try dsimp only at hSw); obtain ⟨hs0, hs1, hs2, hs3⟩ := hSw; go_simp; try with_reducible rfl)
        try simp only [List.getElem_toArray, List.getElem_cons_succ, List.getElem_cons_zero, Act.put, List.setIfInBounds_toArray, List.set_cons_zero, List.set_cons_succ]
        refine wpAnyH_take (i := 17) (v := ?_) rfl (by kernel_rfl) (by kernel_rfl) (by kernel_rfl) (fun _ _ _ h => h) (Or.inl ⟨by rfl, ?_⟩) (by assumption) ?_
        rotate_left 1
        · (intro w' hSw; (try dsimp only at hSw); obtain ⟨hs0, hs1, hs2, hs3⟩ := hSw; go_simp; try with_reducible rfl)
        try simp only [List.getElem_toArray, List.getElem_cons_succ, List.getElem_cons_zero, Act.put, List.setIfInBounds_toArray, List.set_cons_zero, List.set_cons_succ]
        refine wpAnyH_take (i := 18) (v := ?_) rfl (by kernel_rfl) (by kernel_rfl) (by kernel_rfl) (fun _ _ _ h => h) (Or.inl ⟨by rfl, ?_⟩) (by assumption) ?_
        rotate_left 1
        · (intro w' hSw; (try dsimp only at hSw); obtain ⟨hs0, hs1, hs2, hs3⟩ := hSw; go_simp; try with_reducible rfl)
        try simp only [List.getElem_toArray, List.getElem_cons_succ, List.getElem_cons_zero, Act.put, List.setIfInBounds_toArray, List.set_cons_zero, List.set_cons_succ]
        refine wpAnyH_take (i := 19) (v := ?_) rfl (by kernel_rfl) (by kernel_rfl) (by kernel_rfl) (fun _ _ _ h => h) (Or.inl ⟨by rfl, ?_⟩) (by assumption) ?_
        rotate_left 1
        · (intro w' hSw; (try dsimp only at hSw); obtain ⟨hs0, hs1, hs2, hs3⟩ := hSw; go_simp; try with_reducible rfl)
        try simp only [List.getElem_toArray, List.getElem_cons_succ, List.getElem_cons_zero, Act.put, List.setIfInBounds_toArray, List.set_cons_zero, List.set_cons_succ]
        refine wpAnyH_take (i := 20) (v := ?_) rfl (by kernel_rfl) (by kernel_rfl) (by kernel_rfl) (fun _ _ _ h => h) (Or.inl ⟨by rfl, ?_⟩) (by assumption) ?_
        rotate_left 1
        · (intro w' hSw; (try dsimp only at hSw); obtain ⟨hs0, hs1, hs2, hs3⟩ := hSw; go_simp; try with_reducible rfl)
        try simp only [List.getElem_toArray, List.getElem_cons_succ, List.getElem_cons_zero, Act.put, List.setIfInBounds_toArray, List.set_cons_zero, List.set_cons_succ]
        refine wpAnyH_ready (rs := [14]) (by kernel_rfl) (by simp) ?_
        refine AllReadyH.cons rfl (fun K hK => ?_) AllReadyH.nil
        simp only [List.getElem_toArray, List.getElem_cons_succ, List.getElem_cons_zero]
        go_simp
        refine (Bytes_any _ _ dv3 _ _ (by exact HP4.out.below (Below.refl _ _).drew)).mono ?_
        rintro e w5 ⟨a5, c5, rfl, hs5, hb5⟩
        have hbb : Below w4.heap.size w4 w5 := (Below.refl _ _).drew.trans (hb5.mono (Nat.le_refl _))
        go_wp2_with fail
        refine hK.out _ _ (⟨hbb, (H4.out.below hbb).cell.2.2.2.1, (H4.out.below hbb).cell.2.1, run_conv_bs _ 23 9 5 Try.underlying23 Try.underlying5 Try.underlying9 ra _ rc _ (Sl.below HDS.out hbb)⟩) (fun hHeld => ?_)
        clear hK K
        try simp only [Act.put, List.setIfInBounds_toArray, List.set_cons_zero, List.set_cons_succ]
        have hc5 : (convert 23 9 (.slice a5 E.data.length c5)).run Try.prog w5 = .ok (.string ⟨E.data.toArray⟩) w5 := run_conv_bs w5 23 9 5 Try.underlying23 Try.underlying5 Try.underlying9 a5 _ c5 _ hs5
        refine wpAnyH_more (S' := fun w' => (Below w4.heap.size w4 w' ∧ w'.cell? ⟨hb, 3, none⟩ = some (.bool E.off) ∧ w'.cell? ⟨hb, 1, none⟩ = some (.slice ra E.data.length rc) ∧ (convert 23 9 (.slice ra E.data.length rc)).run Try.prog w' = .ok (.string ⟨E.data.toArray⟩) w') ∧ (convert 23 9 (.slice a5 E.data.length c5)).run Try.prog w' = .ok (.string ⟨E.data.toArray⟩) w') (fun _ h => h.1) _ _ _ _ ?_
        have hHeld2 := And.intro hHeld hc5
        refine wpAnyH_take (i := 15) (v := ?_) rfl (by kernel_rfl) (by kernel_rfl) (by kernel_rfl) (fun _ _ _ h => h) (Or.inl ⟨by rfl, ?_⟩) (by assumption) ?_
        rotate_left 1
        · (intro w' hSw; (try dsimp only at hSw); obtain ⟨⟨hs0, hs1, hs2, hs3⟩, hs4⟩ := hSw; go_simp; try with_reducible rfl)
        try simp only [List.getElem_toArray, List.getElem_cons_succ, List.getElem_cons_zero, Act.put, List.setIfInBounds_toArray, List.set_cons_zero, List.set_cons_succ]
        refine wpAnyH_take (i := 21) (v := ?_) rfl (by kernel_rfl) (by kernel_rfl) (by kernel_rfl) (fun _ _ _ h => h) (Or.inl ⟨by rfl, ?_⟩) (by assumption) ?_
        rotate_left 1
        · (intro w' hSw; (try dsimp only at hSw); obtain ⟨⟨hs0, hs1, hs2, hs3⟩, hs4⟩ := hSw; go_simp; try with_reducible rfl)
        try simp only [List.getElem_toArray, List.getElem_cons_succ, List.getElem_cons_zero, Act.put, List.setIfInBounds_toArray, List.set_cons_zero, List.set_cons_succ]
        refine wpAnyH_take (i := 22) (v := ?_) rfl (by kernel_rfl) (by kernel_rfl) (by kernel_rfl) (fun _ _ _ h => h) (Or.inl ⟨by rfl, ?_⟩) (by assumption) ?_
        rotate_left 1
        · (intro w' hSw; (try dsimp only at hSw); obtain ⟨⟨hs0, hs1, hs2, hs3⟩, hs4⟩ := hSw; go_simp; try with_reducible rfl)
        try simp only [List.getElem_toArray, List.getElem_cons_succ, List.getElem_cons_zero, Act.put, List.setIfInBounds_toArray, List.set_cons_zero, List.set_cons_succ]
        refine wpAnyH_done (by kernel_rfl) ?_ _
        clear hHeld hHeld2 hs5 hb5 hc5
        go_wp2_with fail
        go_roundw
        case rel => exact ⟨k + 1, dv3, .slice ra E.data.length rc, E, by omega, by go_num, HB4.out.trans (hbb.mono HB4.out.size), HP4.out.below hbb, H4.out.below hbb, HA4.out.symm⟩
        case measure => simp [intOf]; omega
      by_cases k3 : kd = 3
      · subst k3
        have halloc : Below wr.heap.size wr (wr.alloc (.cells #[.int .i64 3, .int .i64 nn, .slice x m q] 52)) := Below.allocR _ _
        have HPA := Lib.hid (HP.out.below halloc)
        have HRA := Lib.hid (HR.out.below halloc)
        have HBA : Hid (Below w.heap.size w (wr.alloc (.cells #[.int .i64 3, .int .i64 nn, .slice x m q] 52))) := HB.out.trans (halloc.mono HB.out.size)
        have hnew : (wr.alloc (.cells #[.int .i64 3, .int .i64 nn, .slice x m q] 52)).heap[wr.heap.size]? = some (.cells #[.int .i64 3, .int .i64 nn, .slice x m q] 52 (0, 0)) := heap_alloc_new wr _
        have hzs : (wr.alloc (.cells #[.int .i64 3, .int .i64 nn, .slice x m q] 52)).heap.size = wr.heap.size + 1 := by simp
        have HNEW := Lib.hid hnew; clear hnew
        have HZS := Lib.hid hzs; clear hzs halloc
        go_wp2_with fail
        generalize wr.alloc (.cells #[.int .i64 3, .int .i64 nn, .slice x m q] 52) = wa at *
        have ca : wa.cell? ⟨wr.heap.size, 1, none⟩ = some (.int .i64 nn) := by rw [cell_of_row wa wr.heap.size 1 _ 52 (0, 0) HNEW.out]; rfl
        obtain ⟨E, hE⟩ : ∃ E, Hid (E = D.fail nn) := ⟨_, rfl⟩
        refine (Fail_any _ _ dv D _ HPA.out nn hr1.2).mono ?_
        rintro e w3 ⟨rfl, dv3, h3, hm3⟩
        rw [← hE.out] at h3
        obtain ⟨hr3, ha3⟩ := Dev.movedP HPA.out HRA.out HAP.out hm3
        have hn3 : w3.heap[wr.heap.size]? = some (.cells #[.int .i64 3, .int .i64 nn, .slice x m q] 52 (0, 0)) := (hm3.block _ (by have := HZS.out; omega) (by omega) (fun e => by have := HDO.out _ e.symm; omega)).trans HNEW.out
        have HB3 : Hid (Below w.heap.size w w3) := HBA.out.trans (hm3.below HPA.out.low (fun j hj => (HPA.out.own.lt j hj).1) HBA.out.size)
        have hz3 : wr.heap.size < w3.heap.size := by have := HZS.out; have := hm3.size; omega
        have c3 : w3.cell? ⟨wr.heap.size, 1, none⟩ = some (.int .i64 nn) := by rw [cell_of_row w3 wr.heap.size 1 _ 52 (0, 0) hn3]; rfl
        have HR3 := Lib.hid hr3
        have HA3 := Lib.hid ha3
        have H3 := Lib.hid h3
        have HN3 := Lib.hid hn3
        clear h3 hm3 hr3 ha3 hn3
        go_wp2_with fail
        refine (RFail_any _ _ rv D _ HR3.out nn hr1.2).mono ?_
        rintro e w4 ⟨rfl, rv4, h4, hm4⟩
        rw [← hE.out] at h4
        obtain ⟨hp4, ha4⟩ := Dev.movedP HR3.out H3.out HA3.out.symm hm4
        have HB4 : Hid (Below w.heap.size w w4) := HB3.out.trans (hm4.below HR3.out.low (fun j hj => (HR3.out.own.lt j hj).1) HB3.out.size)
        have c4 : w4.cell? ⟨wr.heap.size, 1, none⟩ = some (.int .i64 nn) := by rw [cell_of_row w4 wr.heap.size 1 _ 52 (0, 0) ((hm4.block _ hz3 (by omega) (fun e => by have := HRO.out _ e.symm; omega)).trans HN3.out)]; rfl
        have HP4 := Lib.hid hp4
        have HA4 := Lib.hid ha4
        have H4 := Lib.hid h4
        clear h4 hm4 hp4 ha4
        obtain ⟨ra, rc, rfl, hds⟩ := H4.out.slice
        have HDS := Lib.hid hds; clear hds
        clear hgl hhl hr0 hr1 hmc hmm HDO HRO HPA HRA HBA HNEW HZS ca c0 c1 c2 c3 c4 hz3 HN3 HB3 HR3 HA3 H3 HBS HP HR HB HAP
        go_wp2_with fail
        refine wp_region_held_drew (S := fun w' => Below w4.heap.size w4 w' ∧ w'.cell? ⟨hb, 3, none⟩ = some (.bool E.off) ∧ w'.cell? ⟨hb, 1, none⟩ = some (.slice ra E.data.length rc) ∧ (convert 23 9 (.slice ra E.data.length rc)).run Try.prog w' = .ok (.string ⟨E.data.toArray⟩) w') (by kernel_rfl) ⟨(Below.refl _ _).drew, H4.out.cell.2.2.2.1, H4.out.cell.2.1, run_conv_bs _ 23 9 5 Try.underlying23 Try.underlying5 Try.underlying9 ra _ rc _ HDS.out⟩ (fun hHeld => ?_)
        refine wpAnyH_take (i := 0) (v := ?_) rfl (by kernel_rfl) (by kernel_rfl) (by kernel_rfl) (fun _ _ _ h => h) (Or.inl ⟨by rfl, ?_⟩) (by assumption) ?_
        rotate_left 1
        · (intro w' hSw; (try dsimp only at hSw); obtain ⟨hs0, hs1, hs2, hs3⟩ := hSw; go_simp; try with_reducible rfl)
        try simp only [List.getElem_toArray, List.getElem_cons_zero, Act.put, List.setIfInBounds_toArray, List.set_cons_zero, List.set_cons_succ]
        refine wpAnyH_take (i := 1) (v := ?_) rfl (by kernel_rfl) (by kernel_rfl) (by kernel_rfl) (fun _ _ _ h => h) (Or.inl ⟨by rfl, ?_⟩) (by assumption) ?_
        rotate_left 1
        · (intro w' hSw; (try dsimp only at hSw); obtain ⟨hs0, hs1, hs2, hs3⟩ := hSw; go_simp; try with_reducible rfl)
        try simp only [List.getElem_toArray, List.getElem_cons_succ, List.getElem_cons_zero, Act.put, List.setIfInBounds_toArray, List.set_cons_zero, List.set_cons_succ]
        refine wpAnyH_take (i := 2) (v := ?_) rfl (by kernel_rfl) (by kernel_rfl) (by kernel_rfl) (fun _ _ _ h => h) (Or.inl ⟨by rfl, ?_⟩) (by assumption) ?_
        rotate_left 1
        · (intro w' hSw; (try dsimp only at hSw); obtain ⟨hs0, hs1, hs2, hs3⟩ := hSw; go_simp; try with_reducible rfl)
        try simp only [List.getElem_toArray, List.getElem_cons_succ, List.getElem_cons_zero, Act.put, List.setIfInBounds_toArray, List.set_cons_zero, List.set_cons_succ]
        refine wpAnyH_take (i := 3) (v := ?_) rfl (by kernel_rfl) (by kernel_rfl) (by kernel_rfl) (fun _ _ _ h => h) (Or.inl ⟨by rfl, ?_⟩) (by assumption) ?_
        rotate_left 1
        · (intro w' hSw; (try dsimp only at hSw); obtain ⟨hs0, hs1, hs2, hs3⟩ := hSw; go_simp; try with_reducible rfl)
        try simp only [List.getElem_toArray, List.getElem_cons_succ, List.getElem_cons_zero, Act.put, List.setIfInBounds_toArray, List.set_cons_zero, List.set_cons_succ]
        refine wpAnyH_take (i := 4) (v := ?_) rfl (by kernel_rfl) (by kernel_rfl) (by kernel_rfl) (fun _ _ _ h => h) (Or.inl ⟨by rfl, ?_⟩) (by assumption) ?_
        rotate_left 1
        · (intro w' hSw; (try dsimp only at hSw); obtain ⟨hs0, hs1, hs2, hs3⟩ := hSw; go_simp; try with_reducible rfl)
        try simp only [List.getElem_toArray, List.getElem_cons_succ, List.getElem_cons_zero, Act.put, List.setIfInBounds_toArray, List.set_cons_zero, List.set_cons_succ]
        refine wpAnyH_take (i := 6) (v := ?_) rfl (by kernel_rfl) (by kernel_rfl) (by kernel_rfl) (fun _ _ _ h => h) (Or.inl ⟨by rfl, ?_⟩) (by assumption) ?_
        rotate_left 1
        · (intro w' hSw; (try dsimp only at hSw); obtain ⟨hs0, hs1, hs2, hs3⟩ := hSw; go_simp; try with_reducible rfl)
        try simp only [List.getElem_toArray, List.getElem_cons_succ, List.getElem_cons_zero, Act.put, List.setIfInBounds_toArray, List.set_cons_zero, List.set_cons_succ]
        refine wpAnyH_take (i := 7) (v := ?_) rfl (by kernel_rfl) (by kernel_rfl) (by kernel_rfl) (fun _ _ _ h => h) (Or.inl ⟨by rfl, ?_⟩) (by assumption) ?_
        rotate_left 1
        · (intro w' hSw; (try dsimp only at hSw); obtain ⟨hs0, hs1, hs2, hs3⟩ := hSw; go_simp; try with_reducible rfl)
        try simp only [List.getElem_toArray, List.getElem_cons_succ, List.getElem_cons_zero, Act.put, List.setIfInBounds_toArray, List.set_cons_zero, List.set_cons_succ]
        refine wpAnyH_take (i := 8) (v := ?_) rfl (by kernel_rfl) (by kernel_rfl) (by kernel_rfl) (fun _ _ _ h => h) (Or.inl ⟨by rfl, ?_⟩) (by assumption) ?_
        rotate_left 1
        · (intro w' hSw; (try dsimp only at hSw); obtain ⟨hs0, hs1, hs2, hs3⟩ := hSw; go_simp; try with_reducible rfl)
        try simp only [List.getElem_toArray, List.getElem_cons_succ, List.getElem_cons_zero, Act.put, List.setIfInBounds_toArray, List.set_cons_zero, List.set_cons_succ]
        refine wpAnyH_take (i := 9) (v := ?_) rfl (by kernel_rfl) (by kernel_rfl) (by kernel_rfl) (fun _ _ _ h => h) (Or.inl ⟨by rfl, ?_⟩) (by assumption) ?_
        rotate_left 1
        · (intro w' hSw; (try dsimp only at hSw); obtain ⟨hs0, hs1, hs2, hs3⟩ := hSw; go_simp; try with_reducible rfl)
        try simp only [List.getElem_toArray, List.getElem_cons_succ, List.getElem_cons_zero, Act.put, List.setIfInBounds_toArray, List.set_cons_zero, List.set_cons_succ]
        refine wpAnyH_ready (rs := [5]) (by kernel_rfl) (by simp) ?_
        refine AllReadyH.cons rfl (fun K hK => ?_) AllReadyH.nil
        simp only [List.getElem_toArray, List.getElem_cons_succ, List.getElem_cons_zero]
        go_simp
        refine (Down_any _ _ dv3 _ _ (by exact HP4.out.below hHeld.1)).mono ?_; rintro e w' ⟨rfl, rfl⟩
        go_wp2_with fail
        refine hK.out _ _ (hHeld) (fun hHeld => ?_)
        clear hK K
        try simp only [Act.put, List.setIfInBounds_toArray, List.set_cons_zero, List.set_cons_succ]
        refine wpAnyH_take (i := 10) (v := ?_) rfl (by kernel_rfl) (by kernel_rfl) (by kernel_rfl) (fun _ _ _ h => h) (Or.inl ⟨by rfl, ?_⟩) (by assumption) ?_
        rotate_left 1
        · (intro w' hSw; (try dsimp only at hSw); obtain ⟨hs0, hs1, hs2, hs3⟩ := hSw; go_simp; try with_reducible rfl)
        try simp only [List.getElem_toArray, List.getElem_cons_succ, List.getElem_cons_zero, Act.put, List.setIfInBounds_toArray, List.set_cons_zero, List.set_cons_succ]
        refine wpAnyH_take (i := 11) (v := ?_) rfl (by kernel_rfl) (by kernel_rfl) (by kernel_rfl) (fun _ _ _ h => h) (Or.inl ⟨by rfl, ?_⟩) (by assumption) ?_
        rotate_left 1
        · (intro w' hSw; (try dsimp only at hSw); obtain ⟨hs0, hs1, hs2, hs3⟩ := hSw; go_simp; try with_reducible rfl)
        try simp only [List.getElem_toArray, List.getElem_cons_succ, List.getElem_cons_zero, Act.put, List.setIfInBounds_toArray, List.set_cons_zero, List.set_cons_succ]
        refine wpAnyH_take (i := 12) (v := ?_) rfl (by kernel_rfl) (by kernel_rfl) (by kernel_rfl) (fun _ _ _ h => h) (Or.inl ⟨by rfl, ?_⟩) (by assumption) ?_
        rotate_left 1
        · (intro w' hSw; (try dsimp only at hSw); obtain ⟨hs0, hs1, hs2, hs3⟩ := hSw; go_simp; try with_reducible rfl)
        try simp only [List.getElem_toArray, List.getElem_cons_succ, List.getElem_cons_zero, Act.put, List.setIfInBounds_toArray, List.set_cons_zero, List.set_cons_succ]
        refine wpAnyH_take (i := 13) (v := ?_) rfl (by kernel_rfl) (by kernel_rfl) (by kernel_rfl) (fun _ _ _ h => h) (Or.inl ⟨by rfl, ?_⟩) (by assumption) ?_
        rotate_left 1
        · (intro w' hSw; (try dsimp only at hSw); obtain ⟨hs0, hs1, hs2, hs3⟩ := hSw; go_simp; try with_reducible rfl)
        try simp only [List.getElem_toArray, List.getElem_cons_succ, List.getElem_cons_zero, Act.put, List.setIfInBounds_toArray, List.set_cons_zero, List.set_cons_succ]
        refine wpAnyH_take (i := 16) (v := ?_) rfl (by kernel_rfl) (by kernel_rfl) (by kernel_rfl) (fun _ _ _ h => h) (Or.inl ⟨by rfl, ?_⟩) (by assumption) ?_
        rotate_left 1
        · (intro w' hSw; (try dsimp only at hSw); obtain ⟨hs0, hs1, hs2, hs3⟩ := hSw; go_simp; try with_reducible rfl)
        try simp only [List.getElem_toArray, List.getElem_cons_succ, List.getElem_cons_zero, Act.put, List.setIfInBounds_toArray, List.set_cons_zero, List.set_cons_succ]
        refine wpAnyH_take (i := 17) (v := ?_) rfl (by kernel_rfl) (by kernel_rfl) (by kernel_rfl) (fun _ _ _ h => h) (Or.inl ⟨by rfl, ?_⟩) (by assumption) ?_
        rotate_left 1
        · (intro w' hSw; (try dsimp only at hSw); obtain ⟨hs0, hs1, hs2, hs3⟩ := hSw; go_simp; try with_reducible rfl)
        try simp only [List.getElem_toArray, List.getElem_cons_succ, List.getElem_cons_zero, Act.put, List.setIfInBounds_toArray, List.set_cons_zero, List.set_cons_succ]
        refine wpAnyH_take (i := 18) (v := ?_) rfl (by kernel_rfl) (by kernel_rfl) (by kernel_rfl) (fun _ _ _ h => h) (Or.inl ⟨by rfl, ?_⟩) (by assumption) ?_
        rotate_left 1
        · (intro w' hSw; (try dsimp only at hSw); obtain ⟨hs0, hs1, hs2, hs3⟩ := hSw; go_simp; try with_reducible rfl)
        try simp only [List.getElem_toArray, List.getElem_cons_succ, List.getElem_cons_zero, Act.put, List.setIfInBounds_toArray, List.set_cons_zero, List.set_cons_succ]
        refine wpAnyH_take (i := 19) (v := ?_) rfl (by kernel_rfl) (by kernel_rfl) (by kernel_rfl) (fun _ _ _ h => h) (Or.inl ⟨by rfl, ?_⟩) (by assumption) ?_
        rotate_left 1
        · (intro w' hSw; (try dsimp only at hSw); obtain ⟨hs0, hs1, hs2, hs3⟩ := hSw; go_simp; try with_reducible rfl)
        try simp only [List.getElem_toArray, List.getElem_cons_succ, List.getElem_cons_zero, Act.put, List.setIfInBounds_toArray, List.set_cons_zero, List.set_cons_succ]
        refine wpAnyH_take (i := 20) (v := ?_) rfl (by kernel_rfl) (by kernel_rfl) (by kernel_rfl) (fun _ _ _ h => h) (Or.inl ⟨by rfl, ?_⟩) (by assumption) ?_
        rotate_left 1
        · (intro w' hSw; (try dsimp only at hSw); obtain ⟨hs0, hs1, hs2, hs3⟩ := hSw; go_simp; try with_reducible rfl)
        try simp only [List.getElem_toArray, List.getElem_cons_succ, List.getElem_cons_zero, Act.put, List.setIfInBounds_toArray, List.set_cons_zero, List.set_cons_succ]
        refine wpAnyH_ready (rs := [14]) (by kernel_rfl) (by simp) ?_
        refine AllReadyH.cons rfl (fun K hK => ?_) AllReadyH.nil
        simp only [List.getElem_toArray, List.getElem_cons_succ, List.getElem_cons_zero]
        go_simp
        refine (Bytes_any _ _ dv3 _ _ (by exact HP4.out.below (Below.refl _ _).drew)).mono ?_
        rintro e w5 ⟨a5, c5, rfl, hs5, hb5⟩
        have hbb : Below w4.heap.size w4 w5 := (Below.refl _ _).drew.trans (hb5.mono (Nat.le_refl _))
        go_wp2_with fail
        refine hK.out _ _ (⟨hbb, (H4.out.below hbb).cell.2.2.2.1, (H4.out.below hbb).cell.2.1, run_conv_bs _ 23 9 5 Try.underlying23 Try.underlying5 Try.underlying9 ra _ rc _ (Sl.below HDS.out hbb)⟩) (fun hHeld => ?_)
        clear hK K
        try simp only [Act.put, List.setIfInBounds_toArray, List.set_cons_zero, List.set_cons_succ]
        have hc5 : (convert 23 9 (.slice a5 E.data.length c5)).run Try.prog w5 = .ok (.string ⟨E.data.toArray⟩) w5 := run_conv_bs w5 23 9 5 Try.underlying23 Try.underlying5 Try.underlying9 a5 _ c5 _ hs5
        refine wpAnyH_more (S' := fun w' => (Below w4.heap.size w4 w' ∧ w'.cell? ⟨hb, 3, none⟩ = some (.bool E.off) ∧ w'.cell? ⟨hb, 1, none⟩ = some (.slice ra E.data.length rc) ∧ (convert 23 9 (.slice ra E.data.length rc)).run Try.prog w' = .ok (.string ⟨E.data.toArray⟩) w') ∧ (convert 23 9 (.slice a5 E.data.length c5)).run Try.prog w' = .ok (.string ⟨E.data.toArray⟩) w') (fun _ h => h.1) _ _ _ _ ?_
        have hHeld2 := And.intro hHeld hc5
        refine wpAnyH_take (i := 15) (v := ?_) rfl (by kernel_rfl) (by kernel_rfl) (by kernel_rfl) (fun _ _ _ h => h) (Or.inl ⟨by rfl, ?_⟩) (by assumption) ?_
        rotate_left 1
        · (intro w' hSw; (try dsimp only at hSw); obtain ⟨⟨hs0, hs1, hs2, hs3⟩, hs4⟩ := hSw; go_simp; try with_reducible rfl)
        try simp only [List.getElem_toArray, List.getElem_cons_succ, List.getElem_cons_zero, Act.put, List.setIfInBounds_toArray, List.set_cons_zero, List.set_cons_succ]
        refine wpAnyH_take (i := 21) (v := ?_) rfl (by kernel_rfl) (by kernel_rfl) (by kernel_rfl) (fun _ _ _ h => h) (Or.inl ⟨by rfl, ?_⟩) (by assumption) ?_
        rotate_left 1
        · (intro w' hSw; (try dsimp only at hSw); obtain ⟨⟨hs0, hs1, hs2, hs3⟩, hs4⟩ := hSw; go_simp; try with_reducible rfl)
        try simp only [List.getElem_toArray, List.getElem_cons_succ, List.getElem_cons_zero, Act.put, List.setIfInBounds_toArray, List.set_cons_zero, List.set_cons_succ]
        refine wpAnyH_take (i := 22) (v := ?_) rfl (by kernel_rfl) (by kernel_rfl) (by kernel_rfl) (fun _ _ _ h => h) (Or.inl ⟨by rfl, ?_⟩) (by assumption) ?_
        rotate_left 1
        · (intro w' hSw; (try dsimp only at hSw); obtain ⟨⟨hs0, hs1, hs2, hs3⟩, hs4⟩ := hSw; go_simp; try with_reducible rfl)
        try simp only [List.getElem_toArray, List.getElem_cons_succ, List.getElem_cons_zero, Act.put, List.setIfInBounds_toArray, List.set_cons_zero, List.set_cons_succ]
        refine wpAnyH_done (by kernel_rfl) ?_ _
        clear hHeld hHeld2 hs5 hb5 hc5
        go_wp2_with fail
        go_roundw
        case rel => exact ⟨k + 1, dv3, .slice ra E.data.length rc, E, by omega, by go_num, HB4.out.trans (hbb.mono HB4.out.size), HP4.out.below hbb, H4.out.below hbb, HA4.out.symm⟩
        case measure => simp [intOf]; omega
      have halloc : Below wr.heap.size wr (wr.alloc (.cells #[.int .i64 kd, .int .i64 nn, .slice x m q] 52)) := Below.allocR _ _
      have HPA := Lib.hid (HP.out.below halloc)
      have HRA := Lib.hid (HR.out.below halloc)
      have HBA : Hid (Below w.heap.size w (wr.alloc (.cells #[.int .i64 kd, .int .i64 nn, .slice x m q] 52))) := HB.out.trans (halloc.mono HB.out.size)
      have hnew : (wr.alloc (.cells #[.int .i64 kd, .int .i64 nn, .slice x m q] 52)).heap[wr.heap.size]? = some (.cells #[.int .i64 kd, .int .i64 nn, .slice x m q] 52 (0, 0)) := heap_alloc_new wr _
      have hzs : (wr.alloc (.cells #[.int .i64 kd, .int .i64 nn, .slice x m q] 52)).heap.size = wr.heap.size + 1 := by simp
      have HNEW := Lib.hid hnew; clear hnew
      have HZS := Lib.hid hzs; clear hzs halloc
      go_wp2_with fail
      generalize wr.alloc (.cells #[.int .i64 kd, .int .i64 nn, .slice x m q] 52) = wa at *
      have ca : wa.cell? ⟨wr.heap.size, 2, none⟩ = some (.slice x m q) := by rw [cell_of_row wa wr.heap.size 2 _ 52 (0, 0) HNEW.out]; rfl
      obtain ⟨E, hE⟩ : ∃ E, Hid (E = (D.write dat).1) := ⟨_, rfl⟩
      obtain ⟨ez, hez⟩ : ∃ ez : Nat, Hid (ez = (D.write dat).2) := ⟨_, rfl⟩
      have HPA := Lib.hid (HPA.out.below (Below.refl _ _).drew)
      have HRA := Lib.hid (HRA.out.below (Below.refl _ _).drew)
      have HBA : Hid (Below w.heap.size w wa.drew) := HBA.out.drew
      have HNEW : Hid (wa.drew.heap[wr.heap.size]? = _) := HNEW.out
      have HZS : Hid (wa.drew.heap.size = wr.heap.size + 1) := HZS.out
      go_region_held3 (fun (w' : World) => w'.cell? ⟨wr.heap.size, 2, none⟩ = some (.slice x m q)) (assumption) (first
        | (go_at_call 18; refine (Write_any _ _ dv D _ HPA.out x m q dat (Sl.below HBS.out HBA.out) (apart HBS.out (by omega) HPA.out)).mono ?_
           rintro e w3 ⟨rfl, dv3, h3, hm3⟩
           rw [← hE.out] at h3
           rw [← hez.out]
           obtain ⟨hr3, ha3⟩ := Dev.movedP HPA.out HRA.out HAP.out hm3
           have hn3 : w3.heap[wr.heap.size]? = some (.cells #[.int .i64 kd, .int .i64 nn, .slice x m q] 52 (0, 0)) := (hm3.block _ (by have := HZS.out; omega) (by omega) (fun e => by have := HDO.out _ e.symm; omega)).trans HNEW.out
           have HB3 : Hid (Below w.heap.size w w3) := HBA.out.trans (hm3.below HPA.out.low (fun j hj => (HPA.out.own.lt j hj).1) HBA.out.size)
           have hz3 : wr.heap.size < w3.heap.size := by have := HZS.out; have := hm3.size; omega
           have c3 : w3.cell? ⟨wr.heap.size, 2, none⟩ = some (.slice x m q) := by rw [cell_of_row w3 wr.heap.size 2 _ 52 (0, 0) hn3]; rfl
           have HR3 := Lib.hid hr3
           have HA3 := Lib.hid ha3
           have H3 := Lib.hid h3
           have HN3 := Lib.hid hn3
           clear h3 hm3 hr3 ha3 hn3)
        | (go_at_call 42; refine (RWrite_any _ _ rv D _ HR3.out x m q dat (Sl.below HBS.out HB3.out) (apart HBS.out (by omega) HR3.out)).mono ?_
           rintro e w4 ⟨rfl, rv4, h4, hm4⟩
           rw [← hE.out] at h4
           rw [← hez.out]
           obtain ⟨hp4, ha4⟩ := Dev.movedP HR3.out H3.out HA3.out.symm hm4
           have HB4 : Hid (Below w.heap.size w w4) := HB3.out.trans (hm4.below HR3.out.low (fun j hj => (HR3.out.own.lt j hj).1) HB3.out.size)
           have c4 : w4.cell? ⟨wr.heap.size, 2, none⟩ = some (.slice x m q) := by rw [cell_of_row w4 wr.heap.size 2 _ 52 (0, 0) ((hm4.block _ hz3 (by omega) (fun e => by have := HRO.out _ e.symm; omega)).trans HN3.out)]; rfl
           have HP4 := Lib.hid hp4
           have HA4 := Lib.hid ha4
           have H4 := Lib.hid h4
           clear h4 hm4 hp4 ha4))
      obtain ⟨ra, rc, rfl, hds⟩ := H4.out.slice
      have HDS := Lib.hid hds; clear hds
      clear hgl hhl hr0 hr1 hmc hmm HDO HRO HPA HRA HBA HNEW HZS ca c0 c1 c2 c3 c4 hz3 HN3 HB3 HR3 HA3 H3 HBS HP HR HB HAP
      go_wp2_with fail
      refine wp_region_held_drew (S := fun w' => Below w4.heap.size w4 w' ∧ w'.cell? ⟨hb, 3, none⟩ = some (.bool E.off) ∧ w'.cell? ⟨hb, 1, none⟩ = some (.slice ra E.data.length rc) ∧ (convert 23 9 (.slice ra E.data.length rc)).run Try.prog w' = .ok (.string ⟨E.data.toArray⟩) w') (by kernel_rfl) ⟨(Below.refl _ _).drew, H4.out.cell.2.2.2.1, H4.out.cell.2.1, run_conv_bs _ 23 9 5 Try.underlying23 Try.underlying5 Try.underlying9 ra _ rc _ HDS.out⟩ (fun hHeld => ?_)
      refine wpAnyH_take (i := 0) (v := ?_) rfl (by kernel_rfl) (by kernel_rfl) (by kernel_rfl) (fun _ _ _ h => h) (Or.inl ⟨by rfl, ?_⟩) (by assumption) ?_
      rotate_left 1
      · (intro w' hSw; (try dsimp only at hSw); obtain ⟨hs0, hs1, hs2, hs3⟩ := hSw; go_simp; try with_reducible rfl)
      try simp only [List.getElem_toArray, List.getElem_cons_zero, Act.put, List.setIfInBounds_toArray, List.set_cons_zero, List.set_cons_succ]
      refine wpAnyH_take (i := 1) (v := ?_) rfl (by kernel_rfl) (by kernel_rfl) (by kernel_rfl) (fun _ _ _ h => h) (Or.inl ⟨by rfl, ?_⟩) (by assumption) ?_
      rotate_left 1
      · (intro w' hSw; (try dsimp only at hSw); obtain ⟨hs0, hs1, hs2, hs3⟩ := hSw; go_simp; try with_reducible rfl)
      try simp only [List.getElem_toArray, List.getElem_cons_succ, List.getElem_cons_zero, Act.put, List.setIfInBounds_toArray, List.set_cons_zero, List.set_cons_succ]
      refine wpAnyH_take (i := 2) (v := ?_) rfl (by kernel_rfl) (by kernel_rfl) (by kernel_rfl) (fun _ _ _ h => h) (Or.inl ⟨by rfl, ?_⟩) (by assumption) ?_
      rotate_left 1
      · (intro w' hSw; (try dsimp only at hSw); obtain ⟨hs0, hs1, hs2, hs3⟩ := hSw; go_simp; try with_reducible rfl)
      try simp only [List.getElem_toArray, List.getElem_cons_succ, List.getElem_cons_zero, Act.put, List.setIfInBounds_toArray, List.set_cons_zero, List.set_cons_succ]
      refine wpAnyH_take (i := 3) (v := ?_) rfl (by kernel_rfl) (by kernel_rfl) (by kernel_rfl) (fun _ _ _ h => h) (Or.inl ⟨by rfl, ?_⟩) (by assumption) ?_
      rotate_left 1
      · (intro w' hSw; (try dsimp only at hSw); obtain ⟨hs0, hs1, hs2, hs3⟩ := hSw; go_simp; try with_reducible rfl)
      try simp only [List.getElem_toArray, List.getElem_cons_succ, List.getElem_cons_zero, Act.put, List.setIfInBounds_toArray, List.set_cons_zero, List.set_cons_succ]
      refine wpAnyH_take (i := 4) (v := ?_) rfl (by kernel_rfl) (by kernel_rfl) (by kernel_rfl) (fun _ _ _ h => h) (Or.inl ⟨by rfl, ?_⟩) (by assumption) ?_
      rotate_left 1
      · (intro w' hSw; (try dsimp only at hSw); obtain ⟨hs0, hs1, hs2, hs3⟩ := hSw; go_simp; try with_reducible rfl)
      try simp only [List.getElem_toArray, List.getElem_cons_succ, List.getElem_cons_zero, Act.put, List.setIfInBounds_toArray, List.set_cons_zero, List.set_cons_succ]
      refine wpAnyH_take (i := 6) (v := ?_) rfl (by kernel_rfl) (by kernel_rfl) (by kernel_rfl) (fun _ _ _ h => h) (Or.inl ⟨by rfl, ?_⟩) (by assumption) ?_
      rotate_left 1
      · (intro w' hSw; (try dsimp only at hSw); obtain ⟨hs0, hs1, hs2, hs3⟩ := hSw; go_simp; try with_reducible rfl)
      try simp only [List.getElem_toArray, List.getElem_cons_succ, List.getElem_cons_zero, Act.put, List.setIfInBounds_toArray, List.set_cons_zero, List.set_cons_succ]
      refine wpAnyH_take (i := 7) (v := ?_) rfl (by kernel_rfl) (by kernel_rfl) (by kernel_rfl) (fun _ _ _ h => h) (Or.inl ⟨by rfl, ?_⟩) (by assumption) ?_
      rotate_left 1
      · (intro w' hSw; (try dsimp only at hSw); obtain ⟨hs0, hs1, hs2, hs3⟩ := hSw; go_simp; try with_reducible rfl)
      try simp only [List.getElem_toArray, List.getElem_cons_succ, List.getElem_cons_zero, Act.put, List.setIfInBounds_toArray, List.set_cons_zero, List.set_cons_succ]
      refine wpAnyH_take (i := 8) (v := ?_) rfl (by kernel_rfl) (by kernel_rfl) (by kernel_rfl) (fun _ _ _ h => h) (Or.inl ⟨by rfl, ?_⟩) (by assumption) ?_
      rotate_left 1
      · (intro w' hSw; (try dsimp only at hSw); obtain ⟨hs0, hs1, hs2, hs3⟩ := hSw; go_simp; try with_reducible rfl)
      try simp only [List.getElem_toArray, List.getElem_cons_succ, List.getElem_cons_zero, Act.put, List.setIfInBounds_toArray, List.set_cons_zero, List.set_cons_succ]
      refine wpAnyH_take (i := 9) (v := ?_) rfl (by kernel_rfl) (by kernel_rfl) (by kernel_rfl) (fun _ _ _ h => h) (Or.inl ⟨by rfl, ?_⟩) (by assumption) ?_
      rotate_left 1
      · (intro w' hSw; (try dsimp only at hSw); obtain ⟨hs0, hs1, hs2, hs3⟩ := hSw; go_simp; try with_reducible rfl)
      try simp only [List.getElem_toArray, List.getElem_cons_succ, List.getElem_cons_zero, Act.put, List.setIfInBounds_toArray, List.set_cons_zero, List.set_cons_succ]
      refine wpAnyH_ready (rs := [5]) (by kernel_rfl) (by simp) ?_
      refine AllReadyH.cons rfl (fun K hK => ?_) AllReadyH.nil
      simp only [List.getElem_toArray, List.getElem_cons_succ, List.getElem_cons_zero]
      go_simp
      refine (Down_any _ _ dv3 _ _ (by exact HP4.out.below hHeld.1)).mono ?_; rintro e w' ⟨rfl, rfl⟩
      go_wp2_with fail
      refine hK.out _ _ (hHeld) (fun hHeld => ?_)
      clear hK K
      try simp only [Act.put, List.setIfInBounds_toArray, List.set_cons_zero, List.set_cons_succ]
      refine wpAnyH_take (i := 10) (v := ?_) rfl (by kernel_rfl) (by kernel_rfl) (by kernel_rfl) (fun _ _ _ h => h) (Or.inl ⟨by rfl, ?_⟩) (by assumption) ?_
      rotate_left 1
      · (intro w' hSw; (try dsimp only at hSw); obtain ⟨hs0, hs1, hs2, hs3⟩ := hSw; go_simp; try with_reducible rfl)
      try simp only [List.getElem_toArray, List.getElem_cons_succ, List.getElem_cons_zero, Act.put, List.setIfInBounds_toArray, List.set_cons_zero, List.set_cons_succ]
      refine wpAnyH_take (i := 11) (v := ?_) rfl (by kernel_rfl) (by kernel_rfl) (by kernel_rfl) (fun _ _ _ h => h) (Or.inl ⟨by rfl, ?_⟩) (by assumption) ?_
      rotate_left 1
      · (intro w' hSw; (try dsimp only at hSw); obtain ⟨hs0, hs1, hs2, hs3⟩ := hSw; go_simp; try with_reducible rfl)
      try simp only [List.getElem_toArray, List.getElem_cons_succ, List.getElem_cons_zero, Act.put, List.setIfInBounds_toArray, List.set_cons_zero, List.set_cons_succ]
      refine wpAnyH_take (i := 12) (v := ?_) rfl (by kernel_rfl) (by kernel_rfl) (by kernel_rfl) (fun _ _ _ h => h) (Or.inl ⟨by rfl, ?_⟩) (by assumption) ?_
      rotate_left 1
      · (intro w' hSw; (try dsimp only at hSw); obtain ⟨hs0, hs1, hs2, hs3⟩ := hSw; go_simp; try with_reducible rfl)
      try simp only [List.getElem_toArray, List.getElem_cons_succ, List.getElem_cons_zero, Act.put, List.setIfInBounds_toArray, List.set_cons_zero, List.set_cons_succ]
      refine wpAnyH_take (i := 13) (v := ?_) rfl (by kernel_rfl) (by kernel_rfl) (by kernel_rfl) (fun _ _ _ h => h) (Or.inl ⟨by rfl, ?_⟩) (by assumption) ?_
      rotate_left 1
      · (intro w' hSw; (try dsimp only at hSw); obtain ⟨hs0, hs1, hs2, hs3⟩ := hSw; go_simp; try with_reducible rfl)
      try simp only [List.getElem_toArray, List.getElem_cons_succ, List.getElem_cons_zero, Act.put, List.setIfInBounds_toArray, List.set_cons_zero, List.set_cons_succ]
      refine wpAnyH_take (i := 16) (v := ?_) rfl (by kernel_rfl) (by kernel_rfl) (by kernel_rfl) (fun _ _ _ h => h) (Or.inl ⟨by rfl, ?_⟩) (by assumption) ?_
      rotate_left 1
      · (intro w' hSw; (try dsimp only at hSw); obtain ⟨hs0, hs1, hs2, hs3⟩ := hSw; go_simp; try with_reducible rfl)
      try simp only [List.getElem_toArray, List.getElem_cons_succ, List.getElem_cons_zero, Act.put, List.setIfInBounds_toArray, List.set_cons_zero, List.set_cons_succ]
      refine wpAnyH_take (i := 17) (v := ?_) rfl (by kernel_rfl) (by kernel_rfl) (by kernel_rfl) (fun _ _ _ h => h) (Or.inl ⟨by rfl, ?_⟩) (by assumption) ?_
      rotate_left 1
      · (intro w' hSw; (try dsimp only at hSw); obtain ⟨hs0, hs1, hs2, hs3⟩ := hSw; go_simp; try with_reducible rfl)
      try simp only [List.getElem_toArray, List.getElem_cons_succ, List.getElem_cons_zero, Act.put, List.setIfInBounds_toArray, List.set_cons_zero, List.set_cons_succ]
      refine wpAnyH_take (i := 18) (v := ?_) rfl (by kernel_rfl) (by kernel_rfl) (by kernel_rfl) (fun _ _ _ h => h) (Or.inl ⟨by rfl, ?_⟩) (by assumption) ?_
      rotate_left 1
      · (intro w' hSw; (try dsimp only at hSw); obtain ⟨hs0, hs1, hs2, hs3⟩ := hSw; go_simp; try with_reducible rfl)
      try simp only [List.getElem_toArray, List.getElem_cons_succ, List.getElem_cons_zero, Act.put, List.setIfInBounds_toArray, List.set_cons_zero, List.set_cons_succ]
      refine wpAnyH_take (i := 19) (v := ?_) rfl (by kernel_rfl) (by kernel_rfl) (by kernel_rfl) (fun _ _ _ h => h) (Or.inl ⟨by rfl, ?_⟩) (by assumption) ?_
      rotate_left 1
      · (intro w' hSw; (try dsimp only at hSw); obtain ⟨hs0, hs1, hs2, hs3⟩ := hSw; go_simp; try with_reducible rfl)
      try simp only [List.getElem_toArray, List.getElem_cons_succ, List.getElem_cons_zero, Act.put, List.setIfInBounds_toArray, List.set_cons_zero, List.set_cons_succ]
      refine wpAnyH_take (i := 20) (v := ?_) rfl (by kernel_rfl) (by kernel_rfl) (by kernel_rfl) (fun _ _ _ h => h) (Or.inl ⟨by rfl, ?_⟩) (by assumption) ?_
      rotate_left 1
      · (intro w' hSw; (try dsimp only at hSw); obtain ⟨hs0, hs1, hs2, hs3⟩ := hSw; go_simp; try with_reducible rfl)
      try simp only [List.getElem_toArray, List.getElem_cons_succ, List.getElem_cons_zero, Act.put, List.setIfInBounds_toArray, List.set_cons_zero, List.set_cons_succ]
      refine wpAnyH_ready (rs := [14]) (by kernel_rfl) (by simp) ?_
      refine AllReadyH.cons rfl (fun K hK => ?_) AllReadyH.nil
      simp only [List.getElem_toArray, List.getElem_cons_succ, List.getElem_cons_zero]
      go_simp
      refine (Bytes_any _ _ dv3 _ _ (by exact HP4.out.below (Below.refl _ _).drew)).mono ?_
      rintro e w5 ⟨a5, c5, rfl, hs5, hb5⟩
      have hbb : Below w4.heap.size w4 w5 := (Below.refl _ _).drew.trans (hb5.mono (Nat.le_refl _))
      go_wp2_with fail
      refine hK.out _ _ (⟨hbb, (H4.out.below hbb).cell.2.2.2.1, (H4.out.below hbb).cell.2.1, run_conv_bs _ 23 9 5 Try.underlying23 Try.underlying5 Try.underlying9 ra _ rc _ (Sl.below HDS.out hbb)⟩) (fun hHeld => ?_)
      clear hK K
      try simp only [Act.put, List.setIfInBounds_toArray, List.set_cons_zero, List.set_cons_succ]
      have hc5 : (convert 23 9 (.slice a5 E.data.length c5)).run Try.prog w5 = .ok (.string ⟨E.data.toArray⟩) w5 := run_conv_bs w5 23 9 5 Try.underlying23 Try.underlying5 Try.underlying9 a5 _ c5 _ hs5
      refine wpAnyH_more (S' := fun w' => (Below w4.heap.size w4 w' ∧ w'.cell? ⟨hb, 3, none⟩ = some (.bool E.off) ∧ w'.cell? ⟨hb, 1, none⟩ = some (.slice ra E.data.length rc) ∧ (convert 23 9 (.slice ra E.data.length rc)).run Try.prog w' = .ok (.string ⟨E.data.toArray⟩) w') ∧ (convert 23 9 (.slice a5 E.data.length c5)).run Try.prog w' = .ok (.string ⟨E.data.toArray⟩) w') (fun _ h => h.1) _ _ _ _ ?_
      have hHeld2 := And.intro hHeld hc5
      refine wpAnyH_take (i := 15) (v := ?_) rfl (by kernel_rfl) (by kernel_rfl) (by kernel_rfl) (fun _ _ _ h => h) (Or.inl ⟨by rfl, ?_⟩) (by assumption) ?_
      rotate_left 1
      · (intro w' hSw; (try dsimp only at hSw); obtain ⟨⟨hs0, hs1, hs2, hs3⟩, hs4⟩ := hSw; go_simp; try with_reducible rfl)
      try simp only [List.getElem_toArray, List.getElem_cons_succ, List.getElem_cons_zero, Act.put, List.setIfInBounds_toArray, List.set_cons_zero, List.set_cons_succ]
      refine wpAnyH_take (i := 21) (v := ?_) rfl (by kernel_rfl) (by kernel_rfl) (by kernel_rfl) (fun _ _ _ h => h) (Or.inl ⟨by rfl, ?_⟩) (by assumption) ?_
      rotate_left 1
      · (intro w' hSw; (try dsimp only at hSw); obtain ⟨⟨hs0, hs1, hs2, hs3⟩, hs4⟩ := hSw; go_simp; try with_reducible rfl)
      try simp only [List.getElem_toArray, List.getElem_cons_succ, List.getElem_cons_zero, Act.put, List.setIfInBounds_toArray, List.set_cons_zero, List.set_cons_succ]
      refine wpAnyH_take (i := 22) (v := ?_) rfl (by kernel_rfl) (by kernel_rfl) (by kernel_rfl) (fun _ _ _ h => h) (Or.inl ⟨by rfl, ?_⟩) (by assumption) ?_
      rotate_left 1
      · (intro w' hSw; (try dsimp only at hSw); obtain ⟨⟨hs0, hs1, hs2, hs3⟩, hs4⟩ := hSw; go_simp; try with_reducible rfl)
      try simp only [List.getElem_toArray, List.getElem_cons_succ, List.getElem_cons_zero, Act.put, List.setIfInBounds_toArray, List.set_cons_zero, List.set_cons_succ]
      refine wpAnyH_done (by kernel_rfl) ?_ _
      clear hHeld hHeld2 hs5 hb5 hc5
      go_wp2_with fail
      go_roundw
      case rel => exact ⟨k + 1, dv3, .slice ra E.data.length rc, E, by omega, by go_num, HB4.out.trans (hbb.mono HB4.out.size), HP4.out.below hbb, H4.out.below hbb, HA4.out.symm⟩
      case measure => simp [intOf]; omega
    · go_wp2_with fail
      go_ret
      exact ⟨rfl, HB.out⟩

set_option maxHeartbeats 1600000 in
theorem jdevice_any (size : Int) (a : Option Addr) (n c : Nat) (L : List St) (w : World) (_hs : -9223372036854775808 ≤ size ∧ size ≤ 9223372036854775807) (hv : Steps w a n c L) :
    Calls Try.prog 7 #[.int .i64 size, .slice a n c] w (Holds w) := by
  have HV := Lib.hid hv; clear hv
  go_enter Try.func7, Try.ntmps7
  go_wp2_with fail
  refine (awake_any w).mono ?_
  rintro e w1 ⟨rfl, hb1⟩
  have HB1 := Lib.hid hb1; clear hb1
  go_wp2_with fail
  refine (few_any a n c L _ (HV.out.below HB1.out)).mono ?_
  rintro e w2 ⟨rfl, r, rfl⟩
  cases r with
  | false =>
    go_wp2_with fail
    refine (awake_any _).mono ?_
    rintro e w3 ⟨rfl, hb3⟩
    go_wp2_with fail
    go_ret
    exact ⟨rfl, HB1.out.trans (hb3.mono HB1.out.size)⟩
  | true =>
    go_wp2_with fail
    refine (device_any size a n c L _ (HV.out.below HB1.out)).mono ?_
    rintro e w3 ⟨rfl, hb3⟩
    go_wp2_with fail
    go_ret
    exact ⟨rfl, HB1.out.trans (hb3.mono HB1.out.size)⟩
end Go.Proofs.Ytelbapljkefjcaa
