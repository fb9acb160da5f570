/-
  Sync, Truncate, Crash, Fail of the program.
-/
import Derived.Test.YtelbapljkefjcaaDev2
namespace Go.Proofs.Ytelbapljkefjcaa
open Go.RowKit

theorem ownsRow_take {w : World} {base : Nat} {e : TypeId} {a : Option Addr} {n c : Nat} {xs : List Value} (h : w.ownsRow base e 1 (.slice a n c) n xs) {k : Nat} (hk : k ≤ n) : w.ownsRow base e 1 (.slice a k c) k (xs.take k) := by
  obtain ⟨hl, h2⟩ := h
  rcases h2 with ⟨h, h0⟩ | ⟨g, cap, cur, h, hb, hg, hnc, hcm, hcs, ht⟩
  · obtain ⟨rfl, _, rfl⟩ := Value.slice.inj h
    have : k = 0 := by omega
    subst this
    exact ⟨by simp, .inl ⟨rfl, rfl⟩⟩
  · obtain ⟨rfl, _, rfl⟩ := Value.slice.inj h
    refine ⟨by rw [List.length_take, hl]; omega, .inr ⟨g, c, cur, rfl, hb, hg, by omega, hcm, hcs, ?_⟩⟩
    rw [← ht, List.take_take]
    congr 1
    omega

theorem Moved.recast {a b : World} {g : Nat} {u v v2 : Value} (h : Moved a b g u v) (hb : v2.ownBlock = v.ownBlock) : Moved a b g u v2 := ⟨h.os, h.tape, h.output, h.size, h.block, fun k hk => h.own k (hb ▸ hk)⟩
theorem ownBlock_len (a : Option Addr) (n m c d : Nat) : (Value.slice a n c).ownBlock = (Value.slice a m d).ownBlock := by cases a <;> rfl

section
variable {w w' : World} {base : Nat} {T : TypeId} {g : Nat} {dv v2 : Value} {D D' : DS}
theorem Dev.toV (h : Dev w base T g dv D) (hh : w'.heap[g]? = some (.cells #[.int .i64 D'.size, v2, .int .i64 D'.safe, .bool D'.off, .int .i64 D'.armed] T (0, 0)))
    (hown : w.ownsRow base 5 1 v2 D'.data.length (D'.data.map B)) (hne : v2.ownBlock ≠ some g) (hd : ∀ k, k ≠ g → w'.heap[k]? = w.heap[k]?) (ok : D'.Ok) : Dev w' base T g v2 D' :=
  ⟨h.low, hh, ownsRow_keep hown fun b hb _ => hd b (fun e => hne (by rw [hb, e])), hne, ok⟩
theorem Dev.toV2 (h : Dev w base T g dv D) (i j : Nat) (x y : Value) (hh : (((#[.int .i64 D.size, dv, .int .i64 D.safe, .bool D.off, .int .i64 D.armed] : Array Value).setIfInBounds i x).setIfInBounds j y) = #[.int .i64 D'.size, v2, .int .i64 D'.safe, .bool D'.off, .int .i64 D'.armed])
    (hown : w.ownsRow base 5 1 v2 D'.data.length (D'.data.map B)) (hne : v2.ownBlock ≠ some g) (ok : D'.Ok) : Dev ((w.setCell ⟨g, i, none⟩ x).setCell ⟨g, j, none⟩ y) base T g v2 D' :=
  h.toV (by rw [← hh]; exact heap_setCell_same _ g j _ T y (heap_setCell_same w g i _ T x h.heap)) hown hne (fun k hk => (heap_setCell_other _ ⟨g, j, none⟩ k y hk).trans (heap_setCell_other w ⟨g, i, none⟩ k x hk)) ok
theorem Dev.toV4 (h : Dev w base T g dv D) (i j i' j' : Nat) (x y x' y' : Value) (hh : (((((#[.int .i64 D.size, dv, .int .i64 D.safe, .bool D.off, .int .i64 D.armed] : Array Value).setIfInBounds i x).setIfInBounds j y).setIfInBounds i' x').setIfInBounds j' y') = #[.int .i64 D'.size, v2, .int .i64 D'.safe, .bool D'.off, .int .i64 D'.armed])
    (hown : w.ownsRow base 5 1 v2 D'.data.length (D'.data.map B)) (hne : v2.ownBlock ≠ some g) (ok : D'.Ok) : Dev ((((w.setCell ⟨g, i, none⟩ x).setCell ⟨g, j, none⟩ y).setCell ⟨g, i', none⟩ x').setCell ⟨g, j', none⟩ y') base T g v2 D' :=
  h.toV (by rw [← hh]; exact heap_setCell_same _ g j' _ T y' (heap_setCell_same _ g i' _ T x' (heap_setCell_same _ g j _ T y (heap_setCell_same w g i _ T x h.heap)))) hown hne
    (fun k hk => (heap_setCell_other _ ⟨g, j', none⟩ k y' hk).trans ((heap_setCell_other _ ⟨g, i', none⟩ k x' hk).trans ((heap_setCell_other _ ⟨g, j, none⟩ k y hk).trans (heap_setCell_other w ⟨g, i, none⟩ k x hk)))) ok
end

set_option maxHeartbeats 800000 in
theorem Sync_any (g base : Nat) (dv : Value) (D : DS) (w : World) (h : Dev w base 63 g dv D) :
    Calls Try.prog 19 #[.pointer (some ⟨g, 0, none⟩)] w (DevPost w base 63 g dv D.sync.1 (.int .i64 D.sync.2)) := by
  obtain ⟨c0, c1, c2, c3, c4⟩ := h.cell
  have H := Lib.hid h; clear h
  obtain ⟨da, dc, rfl, hds⟩ := H.out.slice
  clear hds
  cases hoff : D.off with
  | true =>
    have hw : D.sync = (D, 13) := by simp [DS.sync, hoff]
    rw [hw]; clear hw
    rw [hoff] at c3
    clear hoff
    go_enter Try.func19, Try.ntmps19
    go_wp2
    go_ret
    exact ⟨rfl, _, H.out, Moved.refl _ _ _⟩
  | false =>
    rw [hoff] at c3
    have HOFF := Lib.hid hoff; clear hoff
    go_enter Try.func19, Try.ntmps19
    go_wp2_with fail
    refine (operate_any g base _ D _ H.out).mono ?_
    rintro e w1 ⟨rfl, h1, hm1⟩
    have hdat := D.operate_data
    cases hop : D.operate.2 with
    | false =>
      have hw : D.sync = (D.operate.1, 13) := by simp [DS.sync, HOFF.out, hop]
      have HW := Lib.hid hw; clear hw
      simp only [errno_false]
      clear hop hdat
      go_wp2_with fail
      go_ret
      rw [HW.out]
      exact ⟨rfl, _, h1, hm1⟩
    | true =>
      have hw : D.sync = ({ D.operate.1 with safe := D.data.length }, 0) := by simp [DS.sync, HOFF.out, hop]
      have hok := H.out.ok.sync
      rw [hw] at hok
      have HW := Lib.hid hw; clear hw
      simp only [errno_true]
      obtain ⟨d0, d1, d2, d3, d4⟩ := h1.cell
      have e1 := h1.frozen 2
      have H1 := Lib.hid h1; clear h1
      have HOK := Lib.hid hok; clear hok
      have HD := Lib.hid hdat; clear hdat
      clear hop
      go_wp2_with fail
      go_ret
      rw [HW.out]
      exact ⟨rfl, _, H1.out.to1 2 _ rfl rfl HOK.out, hm1.setCell _ _⟩

set_option maxHeartbeats 800000 in
theorem Truncate_any (g base : Nat) (dv : Value) (D : DS) (w : World) (h : Dev w base 63 g dv D) (n : Int) :
    Calls Try.prog 35 #[.pointer (some ⟨g, 0, none⟩), .int .i64 n] w (DevPost w base 63 g dv (D.trunc n).1 (.int .i64 (D.trunc n).2)) := by
  obtain ⟨c0, c1, c2, c3, c4⟩ := h.cell
  have H := Lib.hid h; clear h
  obtain ⟨da, dc, rfl, hds⟩ := H.out.slice
  have hdc := hds.le_cap
  clear hds
  cases hoff : D.off with
  | true =>
    have hw : D.trunc n = (D, 13) := by simp [DS.trunc, hoff]
    rw [hw]; clear hw
    rw [hoff] at c3
    clear hoff
    go_enter Try.func35, Try.ntmps35
    go_wp2
    go_ret
    exact ⟨rfl, _, H.out, Moved.refl _ _ _⟩
  | false =>
    rw [hoff] at c3
    have HOFF := Lib.hid hoff; clear hoff
    by_cases hn0 : n < 0
    · have hw : D.trunc n = (D, 1) := by simp [DS.trunc, HOFF.out, hn0]
      rw [hw]; clear hw
      go_enter Try.func35, Try.ntmps35
      go_wp2
      go_ret
      exact ⟨rfl, _, H.out, Moved.refl _ _ _⟩
    by_cases hn1 : (D.data.length : Int) < n
    · have hw : D.trunc n = (D, 1) := by simp [DS.trunc, HOFF.out, hn1]
      rw [hw]; clear hw
      go_enter Try.func35, Try.ntmps35
      go_wp2
      go_ret
      exact ⟨rfl, _, H.out, Moved.refl _ _ _⟩
    obtain ⟨k, rfl⟩ := Int.eq_ofNat_of_zero_le (show 0 ≤ n by omega)
    have hk : k ≤ D.data.length := by omega
    go_enter Try.func35, Try.ntmps35
    go_wp2_with fail
    refine (operate_any g base _ D _ H.out).mono ?_
    rintro e w1 ⟨rfl, h1, hm1⟩
    have hdat := D.operate_data
    cases hop : D.operate.2 with
    | false =>
      have hw : D.trunc k = (D.operate.1, 13) := by simp [DS.trunc, HOFF.out, hop]; omega
      have HW := Lib.hid hw; clear hw
      simp only [errno_false]
      clear hop hdat
      go_wp2_with fail
      go_ret
      rw [HW.out]
      exact ⟨rfl, _, h1, hm1⟩
    | true =>
      have hw : D.trunc k = ({ D.operate.1 with data := D.data.take k, safe := k }, 0) := by simp [DS.trunc, HOFF.out, hop]; omega
      have hok := H.out.ok.trunc k
      rw [hw] at hok
      have HW := Lib.hid hw; clear hw
      simp only [errno_true]
      obtain ⟨d0, d1, d2, d3, d4⟩ := h1.cell
      have e1 := h1.frozen 1
      have e2 := h1.frozen 2
      have H1 := Lib.hid h1; clear h1
      have HOK := Lib.hid hok; clear hok
      have HD := Lib.hid hdat; clear hdat
      clear hop
      go_wp2_with fail
      go_ret
      rw [HW.out]
      have hown := H1.out.own
      rw [HD.out.1] at hown
      have hown2 := ownsRow_take hown hk
      rw [← List.map_take] at hown2
      have hlk : (D.data.take k).length = k := by rw [List.length_take]; omega
      have hdev := H1.out.toV2 (D' := { D.operate.1 with data := D.data.take k, safe := k }) (v2 := .slice da k dc) 1 2 (.slice da k dc) (.int .i64 k) rfl (by simp only [hlk]; exact hown2) (by rw [ownBlock_len da k D.data.length dc dc]; exact H1.out.ne) HOK.out
      exact ⟨rfl, _, hdev, (((hm1.setCell _ _).setCell _ _).recast (ownBlock_len _ _ _ _ _))⟩

set_option maxHeartbeats 800000 in
theorem Crash_any (g base : Nat) (dv : Value) (D : DS) (w : World) (h : Dev w base 63 g dv D) (n : Int) :
    Calls Try.prog 20 #[.pointer (some ⟨g, 0, none⟩), .int .i64 n] w (DevPost w base 63 g dv (D.crash n) (.tuple #[])) := by
  obtain ⟨c0, c1, c2, c3, c4⟩ := h.cell
  have f1 := h.frozen 1
  have f2 := h.frozen 2
  have f3 := h.frozen 3
  have f4 := h.frozen 4
  have hsafe := h.ok.safe
  have hfits := h.ok.fits
  have hcap := h.ok.cap
  have H := Lib.hid h; clear h
  obtain ⟨da, dc, rfl, hds⟩ := H.out.slice
  have hdc := hds.le_cap
  have hdm := hds.cap_le
  unfold maxLen at hdm
  clear hds
  obtain ⟨m, hm⟩ : ∃ m : Nat, Hid (m = n.toNat) := ⟨_, rfl⟩
  obtain ⟨q, hq⟩ : ∃ q : Nat, Hid (q = min m (D.data.length - D.safe)) := ⟨_, rfl⟩
  have t1 : (if n < 0 then (0 : Int) else n) = (m : Int) := by have := hm.out; split <;> omega
  have t2 : (if (D.data.length : Int) - (D.safe : Int) < (m : Int) then (D.data.length : Int) - (D.safe : Int) else (m : Int)) = (q : Int) := by have := hq.out; split <;> omega
  have hqs : D.safe + q ≤ D.data.length := by have := hq.out; omega
  have t3 : IntKind.i64.wrap ((D.safe : Int) + (q : Int)) = (D.safe : Int) + (q : Int) := IntWalk.i64_in _ (by omega)
  have t4 : (0 : Int) ≤ (D.safe : Int) + (q : Int) := by omega
  have t5 : (D.safe : Int) + (q : Int) ≤ (dc : Int) := by omega
  have t6 : ((D.safe : Int) + (q : Int)).toNat = D.safe + q := by omega
  have hk : Hid (D.keepN n = D.safe + q) := by show _ = _; rw [DS.keepN, hq.out, hm.out]
  have HQS := Lib.hid hqs; clear hqs
  go_enter Try.func20, Try.ntmps20
  go_wp2_with fail
  go_quiet (fail)
  go_wp2_with fail
  refine wp_region_tail 17 (by kernel_rfl) (by kernel_rfl) ?_
  simp only [List.take_succ_cons, List.take_zero, List.drop_succ_cons, List.drop_zero]
  repeat still_step
  refine wpStill_nil ?_
  go_wp2_with fail
  go_end0
  have hcr : D.crash n = { D with data := D.data.take (D.safe + q), safe := D.safe + q, off := false, armed := 0 } := by simp [DS.crash, hk.out]
  have hok := H.out.ok.crash n
  rw [hcr] at hok ⊢
  have hown2 := ownsRow_take H.out.own HQS.out
  rw [← List.map_take] at hown2
  have hlk : (D.data.take (D.safe + q)).length = D.safe + q := by rw [List.length_take]; have := HQS.out; omega
  refine ⟨rfl, .slice da (D.safe + q) dc, ?_, ?_⟩
  · refine (H.out.drewN _).toV4 1 2 3 4 _ _ _ _ rfl (by simp only [hlk]; exact hown2) (by rw [ownBlock_len da (D.safe + q) D.data.length dc dc]; exact H.out.ne) hok
  · exact ((((((Moved.refl _ _ _).drewN _).setCell _ _).setCell _ _).setCell _ _).setCell _ _).recast (ownBlock_len _ _ _ _ _)

set_option maxHeartbeats 800000 in
theorem Fail_any (g base : Nat) (dv : Value) (D : DS) (w : World) (h : Dev w base 63 g dv D) (n : Int) (hn : n ≤ 9223372036854775807) :
    Calls Try.prog 28 #[.pointer (some ⟨g, 0, none⟩), .int .i64 n] w (DevPost w base 63 g dv (D.fail n) (.tuple #[])) := by
  obtain ⟨c0, c1, c2, c3, c4⟩ := h.cell
  have f4 := h.frozen 4
  have H := Lib.hid h; clear h
  obtain ⟨m, hm⟩ : ∃ m : Nat, Hid (m = n.toNat) := ⟨_, rfl⟩
  have t1 : (if n < 0 then (0 : Int) else n) = (m : Int) := by have := hm.out; split <;> omega
  have hok := H.out.ok.fail hn
  have hf : D.fail n = { D with armed := m } := by simp [DS.fail, hm.out]
  rw [hf] at hok ⊢
  have HOK := Lib.hid hok; clear hok hf
  go_enter Try.func28, Try.ntmps28
  go_wp2_with fail
  go_end0
  exact ⟨rfl, _, H.out.to1 4 _ rfl rfl HOK.out, (Moved.refl _ _ _).setCell _ _⟩

set_option maxHeartbeats 800000 in
theorem RFail_any (g base : Nat) (dv : Value) (D : DS) (w : World) (h : Dev w base 56 g dv D) (n : Int) (hn : n ≤ 9223372036854775807) :
    Calls Try.prog 29 #[.pointer (some ⟨g, 0, none⟩), .int .i64 n] w (DevPost w base 56 g dv (D.fail n) (.tuple #[])) := by
  obtain ⟨c0, c1, c2, c3, c4⟩ := h.cell
  have f4 := h.frozen 4
  have H := Lib.hid h; clear h
  obtain ⟨m, hm⟩ : ∃ m : Nat, Hid (m = n.toNat) := ⟨_, rfl⟩
  have t1 : (if n < 0 then (0 : Int) else n) = (m : Int) := by have := hm.out; split <;> omega
  have hok := H.out.ok.fail hn
  have hf : D.fail n = { D with armed := m } := by simp [DS.fail, hm.out]
  rw [hf] at hok ⊢
  have HOK := Lib.hid hok; clear hok hf
  go_enter Try.func29, Try.ntmps29
  go_wp2_with fail
  go_end0
  exact ⟨rfl, _, H.out.to1 4 _ rfl rfl HOK.out, (Moved.refl _ _ _).setCell _ _⟩

set_option maxHeartbeats 400000 in
theorem Down_any (g base : Nat) (dv : Value) (D : DS) (w : World) (h : Dev w base 63 g dv D) :
    Calls Try.prog 22 #[.pointer (some ⟨g, 0, none⟩)] w fun e w' => e = .returned (.bool D.off) ∧ w = w' := by
  obtain ⟨c0, c1, c2, c3, c4⟩ := h.cell
  clear h
  go_enter Try.func22, Try.ntmps22
  go_wp2
  go_ret
  exact ⟨rfl, rfl⟩

set_option maxHeartbeats 400000 in
theorem NewDevice_any (n : Int) (w : World) (base : Nat) (hb : base ≤ w.heap.size) :
    Calls Try.prog 14 #[.int .i64 n] w fun e w' => e = .returned (.pointer (some ⟨w.heap.size, 0, none⟩)) ∧ Dev w' base 63 w.heap.size (.slice none 0 0) (DS.new n) ∧ Below w.heap.size w w' ∧ w'.heap.size = w.heap.size + 1 := by
  obtain ⟨m, hm⟩ : ∃ m : Nat, Hid (m = n.toNat) := ⟨_, rfl⟩
  obtain ⟨q, hq⟩ : ∃ q : Nat, Hid (q = min m 1048576) := ⟨_, rfl⟩
  have t1 : (if n < 0 then (0 : Int) else n) = (m : Int) := by have := hm.out; split <;> omega
  have t2 : (if (1048576 : Int) < (m : Int) then (1048576 : Int) else (m : Int)) = (q : Int) := by have := hq.out; split <;> omega
  have hok := DS.Ok.new n
  have hf : DS.new n = { size := q, data := [], safe := 0, off := false, armed := 0 } := by simp [DS.new, hq.out, hm.out]
  rw [hf] at hok ⊢
  have HOK := Lib.hid hok; clear hok hf
  have HBB := Lib.hid hb; clear hb
  go_enter Try.func14, Try.ntmps14
  go_wp2_with fail
  go_ret
  exact ⟨rfl, ⟨HBB.out, heap_alloc_new w _, World.ownsRow_nil _ _ _ _, by simp [Value.ownBlock], HOK.out⟩, (Below.refl _ _).alloc (Nat.le_refl _) _, by simp⟩

set_option maxHeartbeats 400000 in
theorem RNewDevice_any (n : Int) (w : World) (base : Nat) (hb : base ≤ w.heap.size) :
    Calls Try.prog 25 #[.int .i64 n] w fun e w' => e = .returned (.pointer (some ⟨w.heap.size, 0, none⟩)) ∧ Dev w' base 56 w.heap.size (.slice none 0 0) (DS.new n) ∧ Below w.heap.size w w' ∧ w'.heap.size = w.heap.size + 1 := by
  obtain ⟨m, hm⟩ : ∃ m : Nat, Hid (m = n.toNat) := ⟨_, rfl⟩
  obtain ⟨q, hq⟩ : ∃ q : Nat, Hid (q = min m 1048576) := ⟨_, rfl⟩
  have t1 : (if n < 0 then (0 : Int) else n) = (m : Int) := by have := hm.out; split <;> omega
  have t2 : (if (1048576 : Int) < (m : Int) then (1048576 : Int) else (m : Int)) = (q : Int) := by have := hq.out; split <;> omega
  have hok := DS.Ok.new n
  have hf : DS.new n = { size := q, data := [], safe := 0, off := false, armed := 0 } := by simp [DS.new, hq.out, hm.out]
  rw [hf] at hok ⊢
  have HOK := Lib.hid hok; clear hok hf
  have HBB := Lib.hid hb; clear hb
  go_enter Try.func25, Try.ntmps25
  go_wp2_with fail
  go_ret
  exact ⟨rfl, ⟨HBB.out, heap_alloc_new w _, World.ownsRow_nil _ _ _ _, by simp [Value.ownBlock], HOK.out⟩, (Below.refl _ _).alloc (Nat.le_refl _) _, by simp⟩

/-- Bytes of a device, and what is behind it. -/
theorem Made.ret {w w' : World} {l : List UInt8} {a : Option Addr} {n c : Nat} (hn : n = l.length) (h : w'.ownsRow w.heap.size 5 1 (.slice a n c) n (l.map B)) (hb : Below w.heap.size w w') : Made w l (.returned (.slice a n c)) w' := by
  subst hn; exact ⟨a, c, rfl, h, hb⟩

set_option maxHeartbeats 400000 in
theorem Clone_any (a : Option Addr) (n c : Nat) (l : List UInt8) (w : World) (hv : Bs w a n c l) (hn : n ≤ 140737488355328) :
    Calls Try.prog 39 #[.slice a n c] w (Made w l) := by
  have hl := hv.length
  cases a with
  | none =>
    have h0 := hv.none_len rfl
    have h1 := hv.none_cap rfl
    subst h0; subst h1
    obtain rfl : l = [] := List.eq_nil_of_length_eq_zero hl
    have hq := fun w' : World => run_eql_nil_slice (P := Try.prog) w' 23 5 none 0 0 0 0 Try.underlying23
    clear hl
    go_enter Try.func39, Try.ntmps39
    go_wp2
    go_ret
    exact ⟨none, 0, rfl, World.ownsRow_nil _ _ _ _, Below.refl _ _⟩
  | some ad =>
    have hq : ∀ w' : World, (binOp .eql 23 (.slice (some ad) n c) (.slice none 0 0)).run Try.prog w' = .ok (.bool false) w' := fun w' => by
      have h := Lib.run_eql_slice_nil (P := Try.prog) w' 23 5 (some ad) n c 0 0 Try.underlying23
      exact h
    have HV := Lib.hid hv; clear hv
    have HL := Lib.hid hl; clear hl
    go_enter Try.func39, Try.ntmps39
    go_wp2_with (at_builtin; refine wpList_append_to rfl (.tmp 5) (.tmp 6) 23 rfl w.heap.size 5 (.int .u8 0) 1 1 Try.underlying23 info5 rfl (by omega) (.slice (some ⟨w.heap.size, 0, none⟩) 0 0) 0 [] rfl (by simpa using World.ownsRow_lit w #[] 0 (Nat.le_refl _) (Nat.zero_le _) rfl) (some ad) n c _ rfl (Sl.below HV.out ((Below.refl _ _).alloc (Nat.le_refl _) _)) (oneCell_B _) (by unfold maxLen; omega) (by omega) (by simp) n (by omega) (l.map B) rfl ?_; intro a2 c2 w2 hown2 hgr2 hblk2)
    go_ret
    exact Made.ret HL.out.symm hown2 (((Below.refl _ _).alloc (Nat.le_refl _) _).grown hgr2 (by simp) (fun k hk => by cases hk; exact Nat.le_refl _))

set_option maxHeartbeats 400000 in
theorem Clip_any (a : Option Addr) (n c : Nat) (w : World) (hn : n ≤ c) :
    Calls Try.prog 38 #[.slice a n c] w fun e w' => e = .returned (.slice a n n) ∧ w = w' := by
  go_enter Try.func38, Try.ntmps38
  go_wp2
  go_ret
  exact ⟨rfl, rfl⟩

theorem Sl.clip {w : World} {k : Nat} {a : Option Addr} {n c : Nat} {vs : List Value} (h : Sl w k a n c vs) : Sl w k a n n vs :=
  ⟨h.1, Nat.le_refl _, Nat.le_trans h.le_cap h.cap_le, fun e => h.none_len e, h.2.2.2.2⟩

/-- Readable bytes, and nothing that was there has turned. -/
def BytesOf (w : World) (l : List UInt8) (e : Ending) (w' : World) : Prop := ∃ a c, e = .returned (.slice a l.length c) ∧ Bs w' a l.length c l ∧ Below w.heap.size w w'

set_option maxHeartbeats 400000 in
theorem Bytes_any (g base : Nat) (dv : Value) (D : DS) (w : World) (h : Dev w base 63 g dv D) :
    Calls Try.prog 21 #[.pointer (some ⟨g, 0, none⟩)] w (BytesOf w D.data) := by
  obtain ⟨c0, c1, c2, c3, c4⟩ := h.cell
  have hfit := h.ok.fits
  have hcap := h.ok.cap
  obtain ⟨da, dc, rfl, hds⟩ := h.slice
  clear h
  have HDS := Lib.hid hds; clear hds
  go_enter Try.func21, Try.ntmps21
  go_wp2_with fail
  refine (Clone_any _ _ _ _ _ HDS.out (by omega)).mono ?_
  rintro e w1 ⟨a1, c1, rfl, hown1, hb1⟩
  obtain ⟨_, _, e1, hs1, _⟩ := ownsRow_sl hown1
  obtain ⟨rfl, _, rfl⟩ := Value.slice.inj e1
  go_wp2_with fail
  refine (Clip_any _ _ _ _ hs1.le_cap).mono ?_
  rintro e w' ⟨rfl, rfl⟩
  go_wp2_with fail
  go_ret
  exact ⟨_, _, rfl, hs1.clip, hb1⟩
end Go.Proofs.Ytelbapljkefjcaa
