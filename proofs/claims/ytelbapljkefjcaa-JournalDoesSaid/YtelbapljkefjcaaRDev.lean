/-
  Write, Sync, Truncate, Crash of the reference.
-/
import Derived.Test.YtelbapljkefjcaaDev3
namespace Go.Proofs.Ytelbapljkefjcaa
open Go.RowKit

set_option maxHeartbeats 800000 in
theorem RSync_any (g base : Nat) (dv : Value) (D : DS) (w : World) (h : Dev w base 56 g dv D) :
    Calls Try.prog 40 #[.pointer (some ⟨g, 0, none⟩)] w (DevPost w base 56 g dv D.sync.1 (.int .i64 D.sync.2)) := by
  obtain ⟨c0, c1, c2, c3, c4⟩ := h.cell
  have H := Lib.hid h; clear h
  obtain ⟨da, dc, rfl, hds⟩ := H.out.slice
  clear hds
  cases hoff : D.off with
  | true =>
    have hw : D.sync = (D, 13) := by simp [DS.sync, hoff]
    rw [hw]; clear hw
    rw [hoff] at c3
    clear hoff
    go_enter Try.func40, Try.ntmps40
    go_wp2
    go_ret
    exact ⟨rfl, _, H.out, Moved.refl _ _ _⟩
  | false =>
    rw [hoff] at c3
    have HOFF := Lib.hid hoff; clear hoff
    go_enter Try.func40, Try.ntmps40
    go_wp2_with fail
    refine (Roperate_any g base _ D _ H.out).mono ?_
    rintro e w1 ⟨rfl, h1, hm1⟩
    have hdat := D.operate_data
    cases hop : D.operate.2 with
    | false =>
      have hw : D.sync = (D.operate.1, 13) := by simp [DS.sync, HOFF.out, hop]
      have HW := Lib.hid hw; clear hw
      clear hop hdat
      go_wp2_with fail
      go_ret
      rw [HW.out]
      exact ⟨rfl, _, h1, hm1⟩
    | true =>
      have hw : D.sync = ({ D.operate.1 with safe := D.data.length }, 0) := by simp [DS.sync, HOFF.out, hop]
      have hok := H.out.ok.sync
      rw [hw] at hok
      have HW := Lib.hid hw; clear hw
      obtain ⟨d0, d1, d2, d3, d4⟩ := h1.cell
      have e1 := h1.frozen 2
      have H1 := Lib.hid h1; clear h1
      have HOK := Lib.hid hok; clear hok
      have HD := Lib.hid hdat; clear hdat
      clear hop
      go_wp2_with fail
      go_ret
      rw [HW.out]
      exact ⟨rfl, _, H1.out.to1 2 _ rfl rfl HOK.out, hm1.setCell _ _⟩

set_option maxHeartbeats 800000 in
theorem RWrite_any (g base : Nat) (dv : Value) (D : DS) (w : World) (h : Dev w base 56 g dv D) (a : Option Addr) (n c : Nat) (b : List UInt8) (hb : Bs w a n c b) (hn : 0 < n → ∀ y, a = some y → y.block ≠ g ∧ some y.block ≠ dv.ownBlock) :
    Calls Try.prog 42 #[.pointer (some ⟨g, 0, none⟩), .slice a n c] w (DevPost w base 56 g dv (D.write b).1 (.int .i64 (D.write b).2)) := by
  obtain ⟨c0, c1, c2, c3, c4⟩ := h.cell
  have f1 := h.frozen 1
  have hl := hb.length
  have hfit := h.ok.fits
  have hcap := h.ok.cap
  have hnc := hb.le_cap
  have hcm := hb.cap_le
  unfold maxLen at hcm
  have H := Lib.hid h; clear h
  have HB := Lib.hid hb; clear hb
  have HN := Lib.hid hn; clear hn
  have HL := Lib.hid hl; clear hl
  obtain ⟨da, dc, rfl, hds⟩ := H.out.slice
  clear hds
  cases hoff : D.off with
  | true =>
    have hw : D.write b = (D, 13) := by simp [DS.write, hoff]
    rw [hw]; clear hw
    rw [hoff] at c3
    clear hoff
    go_enter Try.func42, Try.ntmps42
    go_wp2
    go_ret
    exact ⟨rfl, _, H.out, Moved.refl _ _ _⟩
  | false =>
    rw [hoff] at c3
    have HOFF := Lib.hid hoff; clear hoff
    by_cases hfull : D.size - D.data.length < n
    · have hw : D.write b = (D, 12) := by simp [DS.write, HOFF.out, HL.out, hfull]
      rw [hw]; clear hw
      have t1 : decide ((D.size : Int) - (D.data.length : Int) < (n : Int)) = true := by simp; omega
      go_enter Try.func42, Try.ntmps42
      go_wp2_with fail
      go_quiet (fail)
      go_wp2_with fail
      go_ret
      exact ⟨rfl, _, H.out.drewN _, (Moved.refl _ _ _).drewN _⟩
    · have t1 : decide ((D.size : Int) - (D.data.length : Int) < (n : Int)) = false := by simp; omega
      go_enter Try.func42, Try.ntmps42
      go_wp2_with fail
      go_quiet (fail)
      go_wp2_with fail
      refine (Roperate_any g base _ D _ (H.out.drewN _)).mono ?_
      rintro e w1 ⟨rfl, h1, hm1⟩
      have hdat := D.operate_data
      cases hop : D.operate.2 with
      | false =>
        have hw : D.write b = (D.operate.1, 13) := by simp [DS.write, HOFF.out, HL.out, hfull, hop]
        have HW := Lib.hid hw; clear hw
        go_wp2_with fail
        go_ret
        rw [HW.out]
        exact ⟨rfl, _, h1, ((Moved.refl _ _ _).drewN _).trans hm1⟩
      | true =>
        have hw : D.write b = ({ D.operate.1 with data := D.data ++ b }, 0) := by simp [DS.write, HOFF.out, HL.out, hfull, hop]
        have hok := H.out.ok.write b
        rw [hw] at hok
        have HW := Lib.hid hw; clear hw
        have hlow := h1.low
        have hltg := h1.lt
        obtain ⟨d0, d1, d2, d3, d4⟩ := h1.cell
        have e1 := h1.frozen 1
        have hown := h1.own
        rw [hdat.1] at hown
        obtain ⟨_, _, ee, hs1, _⟩ := ownsRow_sl hown
        obtain ⟨rfl, _, rfl⟩ := Value.slice.inj ee
        have HS1 := Lib.hid hs1; clear hs1 hown ee
        have hb1 : Bs w1 a n c b := HB.out.moveTo fun hn0 y ha hlt => by
          have k1 := HN.out hn0 _ ha
          exact hm1.block y.block hlt k1.1 k1.2
        have HB1 := Lib.hid hb1; clear hb1
        have HDAT := Lib.hid hdat; clear hdat
        have H1 := Lib.hid h1; clear h1
        have HOK := Lib.hid hok; clear hok
        clear hop
        have hl2 : (D.data ++ b).length = D.data.length + n := by rw [List.length_append, HL.out]
        have HL2 := Lib.hid hl2; clear hl2
        go_wp2_with (first
          | (at_builtin; refine wpList_append_to rfl (.tmp 26) (.tmp 30) 23 rfl w1.heap.size 5 (.int .u8 0) 1 1 Try.underlying23 info5 rfl (by omega) (.slice (some ⟨w1.heap.size, 0, none⟩) 0 0) 0 [] rfl (by simpa using World.ownsRow_lit w1 #[] 0 (Nat.le_refl _) (Nat.zero_le _) rfl) da D.data.length dc _ rfl (Sl.below HS1.out ((Below.refl _ _).alloc (Nat.le_refl _) _)) (oneCell_B _) (by unfold maxLen; omega) (by omega) (by simp) D.data.length (by omega) (D.data.map B) rfl ?_; intro a2 c2 w2 hown2 hgr2 hblk2
             have hb2 : Below w1.heap.size w1 w2 := ((Below.refl _ _).alloc (Nat.le_refl _) _).grown hgr2 (by simp) (fun k hk => by cases hk; exact Nat.le_refl _)
             have HO2 := Lib.hid hown2; clear hown2
             have hz2 := hb2.size)
          | (at_builtin; refine wpList_append_to rfl (.tmp 31) (.tmp 32) 23 rfl w1.heap.size 5 (.int .u8 0) 1 1 Try.underlying23 info5 rfl (by omega) (.slice a2 D.data.length c2) _ _ rfl HO2.out a n c _ rfl (Sl.below HB1.out hb2) (oneCell_B _) (by unfold maxLen; omega) (by omega) (by omega) _ HL2.out _ (List.map_append (f := B) (l₁ := D.data) (l₂ := b)) ?_; intro a3 c3 w3 hown3 hgr3 hblk3
             have hb3 : Below w1.heap.size w1 w3 := hb2.grown hgr3 (by omega) (fun k hk => (HO2.out.lt k hk).1)
             have hg3 : w3.heap[g]? = w1.heap[g]? := hb3.block g hltg
             have HFIN := Lib.hid (H1.out.setData (Moved.ofBelow hb3 (fun k hk => (hown3.lt k hk).1)) hg3 (ownsRow_base hown3 (by omega)) HOK.out)
             have k1 : w3.cell? ⟨g, 1, none⟩ = some (.slice da D.data.length dc) := (World.cell?_of_block (w := w1) hg3).trans d1
             have k2 : w3.frozen? ⟨g, 1, none⟩ = false := (World.frozen?_of_block (w := w1) hg3).trans e1
             clear hg3 hown3))
        go_ret
        rw [HW.out]
        have hf := HFIN.out
        rw [List.length_append] at hf
        exact ⟨rfl, _, hf.1, ((Moved.refl _ _ _).drewN _).trans (hm1.trans hf.2)⟩

set_option maxHeartbeats 800000 in
theorem RTruncate_any (g base : Nat) (dv : Value) (D : DS) (w : World) (h : Dev w base 56 g dv D) (n : Int) :
    Calls Try.prog 41 #[.pointer (some ⟨g, 0, none⟩), .int .i64 n] w (DevPost w base 56 g dv (D.trunc n).1 (.int .i64 (D.trunc n).2)) := by
  obtain ⟨c0, c1, c2, c3, c4⟩ := h.cell
  have H := Lib.hid h; clear h
  obtain ⟨da, dc, rfl, hds⟩ := H.out.slice
  have hdc := hds.le_cap
  have hfit := H.out.ok.fits
  have hcap := H.out.ok.cap
  clear hds
  cases hoff : D.off with
  | true =>
    have hw : D.trunc n = (D, 13) := by simp [DS.trunc, hoff]
    rw [hw]; clear hw
    rw [hoff] at c3
    clear hoff
    go_enter Try.func41, Try.ntmps41
    go_wp2
    go_ret
    exact ⟨rfl, _, H.out, Moved.refl _ _ _⟩
  | false =>
    rw [hoff] at c3
    have HOFF := Lib.hid hoff; clear hoff
    by_cases hn0 : n < 0
    · have hw : D.trunc n = (D, 1) := by simp [DS.trunc, HOFF.out, hn0]
      rw [hw]; clear hw
      go_enter Try.func41, Try.ntmps41
      go_wp2
      go_ret
      exact ⟨rfl, _, H.out, Moved.refl _ _ _⟩
    by_cases hn1 : (D.data.length : Int) < n
    · have hw : D.trunc n = (D, 1) := by simp [DS.trunc, HOFF.out, hn1]
      rw [hw]; clear hw
      go_enter Try.func41, Try.ntmps41
      go_wp2
      go_ret
      exact ⟨rfl, _, H.out, Moved.refl _ _ _⟩
    obtain ⟨k, rfl⟩ := Int.eq_ofNat_of_zero_le (show 0 ≤ n by omega)
    have hk : k ≤ D.data.length := by omega
    go_enter Try.func41, Try.ntmps41
    go_wp2_with fail
    refine (Roperate_any g base _ D _ H.out).mono ?_
    rintro e w1 ⟨rfl, h1, hm1⟩
    have hdat := D.operate_data
    cases hop : D.operate.2 with
    | false =>
      have hw : D.trunc k = (D.operate.1, 13) := by simp [DS.trunc, HOFF.out, hop]; omega
      have HW := Lib.hid hw; clear hw
      clear hop hdat
      go_wp2_with fail
      go_ret
      rw [HW.out]
      exact ⟨rfl, _, h1, hm1⟩
    | true =>
      have hw : D.trunc k = ({ D.operate.1 with data := D.data.take k, safe := k }, 0) := by simp [DS.trunc, HOFF.out, hop]; omega
      have hok := H.out.ok.trunc k
      rw [hw] at hok
      have HW := Lib.hid hw; clear hw
      have hltg := h1.lt
      have hlow := h1.low
      obtain ⟨d0, d1, d2, d3, d4⟩ := h1.cell
      have e1 := h1.frozen 1
      have e2 := h1.frozen 2
      have hown := h1.own
      rw [hdat.1] at hown
      have hown2 := ownsRow_take hown hk
      rw [← List.map_take] at hown2
      obtain ⟨_, _, ee, hs1, _⟩ := ownsRow_sl hown2
      obtain ⟨rfl, _, rfl⟩ := Value.slice.inj ee
      have HS1 := Lib.hid hs1; clear hs1 hown hown2 ee
      have H1 := Lib.hid h1; clear h1
      have HOK := Lib.hid hok; clear hok
      have HD := Lib.hid hdat; clear hdat
      have HLK : Hid ((D.data.take k).length = k) := by show _ = _; rw [List.length_take]; omega
      clear hop
      go_wp2_with (at_builtin; refine wpList_append_to rfl (.tmp 24) (.tmp 30) 23 rfl w1.heap.size 5 (.int .u8 0) 1 1 Try.underlying23 info5 rfl (by omega) (.slice (some ⟨w1.heap.size, 0, none⟩) 0 0) 0 [] rfl (by simpa using World.ownsRow_lit w1 #[] 0 (Nat.le_refl _) (Nat.zero_le _) rfl) da k dc _ rfl (Sl.below HS1.out ((Below.refl _ _).alloc (Nat.le_refl _) _)) (oneCell_B _) (by unfold maxLen; omega) (by omega) (by simp) k (by omega) ((D.data.take k).map B) rfl ?_; intro a2 c2 w2 hown2 hgr2 hblk2
                   have hb2 : Below w1.heap.size w1 w2 := ((Below.refl _ _).alloc (Nat.le_refl _) _).grown hgr2 (by simp) (fun k hk => by cases hk; exact Nat.le_refl _)
                   have HO2 := Lib.hid hown2; clear hown2
                   have hg2 : w2.heap[g]? = w1.heap[g]? := hb2.block g hltg
                   have k1 : w2.cell? ⟨g, 1, none⟩ = some (.slice da D.data.length dc) := (World.cell?_of_block (w := w1) hg2).trans d1
                   have k2 : w2.frozen? ⟨g, 1, none⟩ = false := (World.frozen?_of_block (w := w1) hg2).trans e1
                   have k3 : w2.cell? ⟨g, 2, none⟩ = some (.int .i64 D.operate.1.safe) := (World.cell?_of_block (w := w1) hg2).trans d2
                   have k4 : w2.frozen? ⟨g, 2, none⟩ = false := (World.frozen?_of_block (w := w1) hg2).trans e2
                   clear hg2)
      go_ret
      rw [HW.out]
      have hdev := (H1.out.below hb2).toV2 (D' := { D.operate.1 with data := D.data.take k, safe := k }) (v2 := .slice a2 k c2) 1 2 (.slice a2 k c2) (.int .i64 k) rfl (by simp only [HLK.out]; exact ownsRow_base HO2.out (by omega)) (fun e => by have := (HO2.out.lt _ e).1; omega) HOK.out
      exact ⟨rfl, _, hdev, hm1.trans (((Moved.ofBelow hb2 (fun k hk => (HO2.out.lt k hk).1)).setCell _ _).setCell _ _)⟩

set_option maxHeartbeats 800000 in
theorem RCrash_any (g base : Nat) (dv : Value) (D : DS) (w : World) (h : Dev w base 56 g dv D) (n : Int) :
    Calls Try.prog 27 #[.pointer (some ⟨g, 0, none⟩), .int .i64 n] w (DevPost w base 56 g dv (D.crash n) (.tuple #[])) := by
  obtain ⟨c0, c1, c2, c3, c4⟩ := h.cell
  have hltg := h.lt
  have hlow := h.low
  have f1 := h.frozen 1
  have f2 := h.frozen 2
  have f3 := h.frozen 3
  have f4 := h.frozen 4
  have hsafe := h.ok.safe
  have hfits := h.ok.fits
  have hcap := h.ok.cap
  have H := Lib.hid h; clear h
  obtain ⟨da, dc, rfl, hds⟩ := H.out.slice
  have hdc := hds.le_cap
  have hdm := hds.cap_le
  unfold maxLen at hdm
  clear hds
  obtain ⟨m, hm⟩ : ∃ m : Nat, Hid (m = n.toNat) := ⟨_, rfl⟩
  obtain ⟨q, hq⟩ : ∃ q : Nat, Hid (q = min m (D.data.length - D.safe)) := ⟨_, rfl⟩
  have t1 : (if n < 0 then (0 : Int) else n) = (m : Int) := by have := hm.out; split <;> omega
  have t2 : (if (D.data.length : Int) - (D.safe : Int) < (m : Int) then (D.data.length : Int) - (D.safe : Int) else (m : Int)) = (q : Int) := by have := hq.out; split <;> omega
  have hqs : D.safe + q ≤ D.data.length := by have := hq.out; omega
  have t3 : IntKind.i64.wrap ((D.safe : Int) + (q : Int)) = (D.safe : Int) + (q : Int) := IntWalk.i64_in _ (by omega)
  have t4 : (0 : Int) ≤ (D.safe : Int) + (q : Int) := by omega
  have t5 : (D.safe : Int) + (q : Int) ≤ (dc : Int) := by omega
  have t6 : ((D.safe : Int) + (q : Int)).toNat = D.safe + q := by omega
  have hk : Hid (D.keepN n = D.safe + q) := by show _ = _; rw [DS.keepN, hq.out, hm.out]
  have hown2 := ownsRow_take H.out.own hqs
  rw [← List.map_take] at hown2
  obtain ⟨_, _, ee, hs1, _⟩ := ownsRow_sl hown2
  obtain ⟨rfl, _, rfl⟩ := Value.slice.inj ee
  have HS1 := Lib.hid hs1; clear hs1 hown2 ee
  have HLK : Hid ((D.data.take (D.safe + q)).length = D.safe + q) := by show _ = _; rw [List.length_take]; omega
  have hcr : Hid (D.crash n = { D with data := D.data.take (D.safe + q), safe := D.safe + q, off := false, armed := 0 }) := by show _ = _; simp [DS.crash, hk.out]
  have hok := H.out.ok.crash n
  rw [hcr.out] at hok
  have HOK := Lib.hid hok; clear hok
  have HQS := Lib.hid hqs
  go_enter Try.func27, Try.ntmps27
  go_wp2_with fail
  go_quiet (fail)
  have kk : ((w.drewN nq).alloc (.cells #[] 5)).cell? ⟨g, 1, none⟩ = some (.slice da D.data.length dc) := (World.cell?_of_block (w := w) (Below.heap_alloc (w.drewN nq) _ g hltg)).trans c1
  go_wp2_with (at_builtin; refine wpList_append_to rfl (.tmp 24) (.tmp 30) 23 rfl w.heap.size 5 (.int .u8 0) 1 1 Try.underlying23 info5 rfl (by omega) (.slice (some ⟨w.heap.size, 0, none⟩) 0 0) 0 [] rfl (by simpa using World.ownsRow_lit (w.drewN nq) #[] 0 (Nat.le_refl _) (Nat.zero_le _) rfl) da (D.safe + q) dc _ rfl (Sl.below HS1.out ((below_drewN (Below.refl _ _) nq).alloc (Nat.le_refl _) _)) (oneCell_B _) (by unfold maxLen; omega) (by omega) (by simp) (D.safe + q) (by omega) ((D.data.take (D.safe + q)).map B) rfl ?_; intro a2 c2' w2 hown2 hgr2 hblk2
               have hb2 : Below w.heap.size w w2 := ((below_drewN (Below.refl _ _) nq).alloc (Nat.le_refl _) _).grown hgr2 (by simp) (fun k hk => by cases hk; exact Nat.le_refl _)
               have HO2 := Lib.hid hown2; clear hown2
               have hg2 : w2.heap[g]? = w.heap[g]? := hb2.block g hltg
               have k0 : w2.cell? ⟨g, 0, none⟩ = some (.int .i64 D.size) := (World.cell?_of_block (w := w) hg2).trans c0
               have k1 : w2.cell? ⟨g, 1, none⟩ = some (.slice da D.data.length dc) := (World.cell?_of_block (w := w) hg2).trans c1
               have k2 : w2.frozen? ⟨g, 1, none⟩ = false := (World.frozen?_of_block (w := w) hg2).trans f1
               have k3 : w2.cell? ⟨g, 2, none⟩ = some (.int .i64 D.safe) := (World.cell?_of_block (w := w) hg2).trans c2
               have k4 : w2.frozen? ⟨g, 2, none⟩ = false := (World.frozen?_of_block (w := w) hg2).trans f2
               have k5 : w2.cell? ⟨g, 3, none⟩ = some (.bool D.off) := (World.cell?_of_block (w := w) hg2).trans c3
               have k6 : w2.frozen? ⟨g, 3, none⟩ = false := (World.frozen?_of_block (w := w) hg2).trans f3
               have k7 : w2.cell? ⟨g, 4, none⟩ = some (.int .i64 D.armed) := (World.cell?_of_block (w := w) hg2).trans c4
               have k8 : w2.frozen? ⟨g, 4, none⟩ = false := (World.frozen?_of_block (w := w) hg2).trans f4
               clear hg2)
  go_end0
  rw [hcr.out]
  have hdev := (H.out.below hb2).toV4 (D' := { D with data := D.data.take (D.safe + q), safe := D.safe + q, off := false, armed := 0 }) (v2 := .slice a2 (D.safe + q) c2') 1 2 3 4 (.slice a2 (D.safe + q) c2') (.int .i64 ((D.safe : Int) + (q : Int))) (.bool false) (.int .i64 0) rfl (by simp only [HLK.out]; exact ownsRow_base HO2.out (by omega)) (fun e => by have := (HO2.out.lt _ e).1; omega) HOK.out
  exact ⟨rfl, _, hdev, ((((Moved.ofBelow hb2 (fun k hk => (HO2.out.lt k hk).1)).setCell _ _).setCell _ _).setCell _ _).setCell _ _⟩
end Go.Proofs.Ytelbapljkefjcaa
