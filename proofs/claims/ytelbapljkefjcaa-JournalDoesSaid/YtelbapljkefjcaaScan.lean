/-
  Scan, of the program and of the reference; lists of records.
-/
import Derived.Test.YtelbapljkefjcaaFrame
import Derived.WalkMore
namespace Go.Proofs.Ytelbapljkefjcaa
open Go.RowKit

theorem info23 : (Try.prog.info? 23).map (fun i => (i.zero, i.size, i.bytes)) = some (some (.slice none 0 0), 1, 24) := by kernel_rfl

/-- The records that a call has made: out is the call's own, the records lie in blocks of their own. -/
def OwnRecs (w : World) (base : Nat) (v : Value) (L : List (List UInt8)) : Prop :=
  ∃ vs, w.ownsRow base 23 1 v L.length vs ∧ RL w vs L (fun b => base ≤ b ∧ some b ≠ v.ownBlock ∧ b < w.heap.size)

theorem OwnRecs.keep {w w' : World} {base : Nat} {v : Value} {L : List (List UInt8)} (h : OwnRecs w base v L) (hs : w.heap.size ≤ w'.heap.size) (hb : ∀ b, base ≤ b → b < w.heap.size → w'.heap[b]? = w.heap[b]?) : OwnRecs w' base v L := by
  obtain ⟨vs, h1, h2⟩ := h
  exact ⟨vs, ownsRow_keep h1 fun b hbl hlt => hb b (h1.lt b hbl).1 hlt, (h2.keep fun b hF hlt => hb b hF.1 hlt).mono fun b hF => ⟨hF.1, hF.2.1, Nat.lt_of_lt_of_le hF.2.2 hs⟩⟩
theorem OwnRecs.drewN {w : World} {base : Nat} {v : Value} {L : List (List UInt8)} (h : OwnRecs w base v L) (n : Nat) : OwnRecs (w.drewN n) base v L := h.keep (Nat.le_refl _) fun _ _ _ => rfl
theorem OwnRecs.below {w w' : World} {base : Nat} {v : Value} {L : List (List UInt8)} (h : OwnRecs w base v L) (hb : Below w.heap.size w w') : OwnRecs w' base v L := h.keep hb.size fun b _ hlt => hb.block b hlt
theorem below_drewN {B : Nat} {a w : World} (h : Below B a w) (n : Nat) : Below B a (w.drewN n) := ⟨h.os, h.tape, h.output, h.size, h.block⟩

/-- A record in new memory, appended to what is owned. -/
theorem OwnRecs.add {wr w2 w3 : World} {base : Nat} {v v3 : Value} {L : List (List UInt8)} {vs : List Value} {r : List UInt8} {a : Option Addr} {n c : Nat} (h1 : wr.ownsRow base 23 1 v L.length vs) (h2 : RL wr vs L (fun b => base ≤ b ∧ some b ≠ v.ownBlock ∧ b < wr.heap.size))
    (hbase : base ≤ wr.heap.size) (hb2 : Below wr.heap.size wr w2) (hr : Bs w2 a n c r) (hab : ∀ y, a = some y → wr.heap.size ≤ y.block ∧ y.block < w2.heap.size) (u : Value)
    (h3 : w3.ownsRow base 23 1 v3 (L.length + 1) (vs ++ [.slice a n c])) (hgr : (w2.alloc (.cells #[u] 23)).grownBy w3 v.ownBlock)
    (hblk : v3.ownBlock = v.ownBlock ∨ v3.ownBlock = some (w2.alloc (.cells #[u] 23)).heap.size) : OwnRecs w3 base v3 (L ++ [r]) := by
  have hlt2 := hb2.size
  have hsz : w2.heap.size + 1 ≤ w3.heap.size := by have := hgr.size; simpa using this
  have hv : ∀ k, v.ownBlock = some k → k < wr.heap.size := fun k hk => (h1.lt k hk).2
  have old : ∀ b, b < w2.heap.size → some b ≠ v.ownBlock → w3.heap[b]? = w2.heap[b]? := fun b hlt hne =>
    (hgr.block b (by simp; omega) hne).trans (Below.heap_alloc _ _ _ hlt)
  refine ⟨_, by simpa using h3, ?_⟩
  have hne : ∀ b, some b ≠ v.ownBlock → b < w2.heap.size → some b ≠ v3.ownBlock := fun b hb hlt e => by
    rcases hblk with h | h
    · exact hb (e.trans h)
    · rw [h] at e
      have := Option.some.inj e
      simp at this
      omega
  refine RL.snoc ?_ ?_ ?_
  · refine (h2.keep (w' := w3) fun b hF _ => ?_).mono fun b hF => ⟨hF.1, hne b hF.2.1 (by omega), by omega⟩
    rw [old b (by omega) hF.2.1]
    exact hb2.block b hF.2.2
  · refine Sl.keep hr fun b o hb hlt => ?_
    subst hb
    have := hab _ rfl
    exact old _ hlt fun e => by have := hv _ e.symm; simp at *; omega
  · intro y hy
    have h := hab y hy
    have hne1 : some y.block ≠ v.ownBlock := fun e => by have := hv _ e.symm; omega
    exact ⟨by omega, hne _ hne1 h.2, by omega⟩

/-- A row known whole can be read. -/
theorem Bs.ofHeap {w : World} {g m : Nat} {r : List UInt8} (hg : w.heap[g]? = some (.cells (r.map B).toArray 5 (0, 0))) (hr : r.length = m) (hm : m ≤ maxLen) : Bs w (some ⟨g, 0, none⟩) m m r := by
  have hs := ownsRow_of_heap (base := 0) (Nat.zero_le _) hg (by simp [hr]; omega)
  simp only [List.length_map, hr] at hs
  obtain ⟨a, c, e, hsl, _⟩ := ownsRow_sl hs
  obtain ⟨rfl, _, rfl⟩ := Value.slice.inj e
  exact hsl

/-- What Scan leaves. -/
def Scanned (w : World) (l : List UInt8) (e : Ending) (w' : World) : Prop :=
  ∃ a c, e = .returned (.tuple #[.slice a (scan l).1.length c, .int .i64 (scan l).2]) ∧ OwnRecs w' w.heap.size (.slice a (scan l).1.length c) (scan l).1 ∧ Below w.heap.size w w'

theorem scanned_of {w wr : World} {l : List UInt8} {v : Value} {L : List (List UInt8)} {k : Nat} {x : List UInt8} (hown : OwnRecs wr w.heap.size v L) (hb : Below w.heap.size w wr)
    (hs : Hid (scan l = (L ++ (scan x).1, k + (scan x).2))) (hno : headB x = false) : Scanned w l (.returned (.tuple #[v, .int .i64 k])) wr := by
  have hs := hs.out
  rw [scan_no hno] at hs
  simp only [List.append_nil, Nat.add_zero] at hs
  obtain ⟨vs, h1, h2⟩ := hown
  obtain ⟨a, c, rfl, h3, _⟩ := ownsRow_sl h1
  rw [Scanned, hs]
  exact ⟨a, c, rfl, ⟨vs, h1, h2⟩, hb⟩

theorem splice_all (cur X : List Value) (h : cur.length = X.length) : splice cur 0 X = X := by
  have : cur.drop X.length = [] := List.drop_eq_nil_of_le (by omega)
  simp [splice, this]
theorem headB_1 {b : List UInt8} (h : b.length < 8) : headB b = false := by simp [headB]; omega
theorem headB_2 {b : List UInt8} (h : be4 b < 1) : headB b = false := by simp [headB]; omega
theorem headB_3 {b : List UInt8} (h : 8192 < be4 b) : headB b = false := by simp [headB]; omega
theorem headB_4 {b : List UInt8} (h : b.length - 8 < be4 b) : headB b = false := by simp [headB]; omega
theorem headB_5 {b : List UInt8} (h : adler ((b.drop 8).take (be4 b)) ≠ be4 (b.drop 4)) : headB b = false := by simp [headB]; intro _ _ _ _; exact h

theorem quiet_eq {P : Program} {f : FuncId} {args : Array Value} {w : World} {n : Nat} {v : Value}
    (h : Calls P f args (w.drewN n) fun e w' => e = .returned v ∧ w.drewN n = w') : Calls P f args (w.drewN n) fun e w'' => e = .returned v ∧ ∃ m, w'' = w.drewN m :=
  h.mono fun _ _ ⟨he, hm⟩ => ⟨he, n, hm.symm⟩

theorem Sl.drewN {w : World} {k : Nat} {a : Option Addr} {n c : Nat} {vs : List Value} (h : Sl w k a n c vs) (m : Nat) : Sl (w.drewN m) k a n c vs := h.keep fun _ _ _ _ => rfl

set_option maxRecDepth 100000 in
set_option maxHeartbeats 800000 in
theorem Scan_any (a : Option Addr) (n c : Nat) (l : List UInt8) (w : World) (hv : Bs w a n c l) (hn : n ≤ 1048576) :
    Calls Try.prog 12 #[.slice a n c] w (Scanned w l) := by
  have hc := hv.le_cap
  have hm := hv.cap_le
  have hl := hv.length
  unfold maxLen at hm
  have HV := Lib.hid hv; clear hv
  have HL := Lib.hid hl; clear hl
  go_enter Try.func12, Try.ntmps12
  go_wp2
  go_step3
  go_wp2
  go_step3
  go_wp2
  go_loopw [4, 5] (fun v i wr => ∃ k : Nat, ∃ L, k ≤ n ∧ i = .int .i64 k ∧ OwnRecs wr w.heap.size v L ∧ Below w.heap.size w wr ∧ Hid (scan l = (L ++ (scan (l.drop k)).1, k + (scan (l.drop k)).2)) ∧ L.length ≤ k) (fun _ i _ => n - (intOf i).toNat)
  case atStart => exact ⟨0, [], Nat.zero_le _, rfl, ⟨[], World.ownsRow_nil _ _ _ _, RL.nil _ _⟩, Below.refl _ _, show _ = _ by simp, Nat.le_refl _⟩
  case round =>
    obtain ⟨k, L, hk, rfl, hown, hb, HS, hLk⟩ := hrel
    have hvr : Bs wr a n c l := HV.out.below hb
    go_wp2_with (refine wpList_cut_lo rfl (.tmp 9) (.tmp 10) 23 rfl 5 (.int .u8 0) 1 1 Try.underlying23 rfl info5 a n c rfl .i64 _ k rfl rfl hk _ hvr ?_; intro a' n' c' hn1 hn2 hc1 hr hblk)
    · have hlen : (l.drop k).length < 8 := by rw [List.length_drop, HL.out]; omega
      rw [Exit.noGoto_ret]
      go_ret2
      exact scanned_of hown hb HS (headB_1 hlen)
    have h8 : 8 ≤ n' := by omega
    have hr' : Bs wr a' n' c' (l.drop k) := Bs.cutFrom hr
    clear hr hvr
    refine (get_any _ _ _ _ _ hr' (by omega)).mono ?_
    rintro e w' ⟨rfl, rfl⟩
    have hlen := hr'.length
    have HLEN := Lib.hid hlen; clear hlen
    have hlt := be4_lt (l.drop k)
    have HR := Lib.hid hr'; clear hr'
    generalize hx : l.drop k = x at *
    have HX := Lib.hid hx; clear hx
    generalize hm4 : be4 x = m at *
    have HM := Lib.hid hm4; clear hm4
    by_cases hm1 : m < 1
    · go_wp2_with fail
      try rw [Exit.noGoto_ret]
      go_ret2
      exact scanned_of hown hb HS (headB_2 (by rw [HM.out]; omega))
    by_cases hm2 : 8192 < m
    · go_wp2_with fail
      try rw [Exit.noGoto_ret]
      go_ret2
      exact scanned_of hown hb HS (headB_3 (by rw [HM.out]; omega))
    by_cases hm3 : n' - 8 < m
    · go_wp2_with fail
      rw [Exit.noGoto_ret]
      go_ret2
      exact scanned_of hown hb HS (headB_4 (by rw [HM.out, HLEN.out]; omega))
    obtain ⟨b, o, rfl, _⟩ := HR.out.at (i := 0) (by omega)
    have hcc := HR.out.le_cap
    have hcm := HR.out.cap_le
    unfold maxLen at hcm
    have f1 : IntKind.i64.wrap (8 + (m : Int)) = 8 + (m : Int) := IntWalk.i64_in _ (by omega)
    have f2 : (8 : Int) ≤ 8 + (m : Int) := by omega
    have f3 : 8 + (m : Int) ≤ (c' : Int) := by omega
    have f4 : ¬ c' = 8 := by omega
    have f5 : ¬ c' = 4 := by omega
    have f6 : (4 : Int) ≤ (n' : Int) := by omega
    have f7 : (8 + (m : Int)).toNat = 8 + m := by omega
    have f8 : 8 + m - 8 = m := by omega
    have q1 : ∀ z, Bs (wr.drewN z) (some ⟨b, o + 8, none⟩) m (c' - 8) ((x.drop 8).take m) := fun z => by
      have h := Bs.cut HR.out (lo := 8) (hi := 8 + m) (by omega) (by omega) (a' := some ⟨b, o + 8, none⟩) (fun _ _ e _ => by cases e; rfl) (by simp)
      rw [f8] at h
      exact Sl.drewN h z
    have q2 : ∀ z, Bs (wr.drewN z) (some ⟨b, o + 4, none⟩) (n' - 4) (c' - 4) (x.drop 4) := fun z => by
      have h := Bs.cut HR.out (lo := 4) (hi := n') (by omega) (by omega) (a' := some ⟨b, o + 4, none⟩) (fun _ _ e _ => by cases e; rfl) (by simp)
      rw [List.take_of_length_le (by rw [List.length_drop, HLEN.out]; exact Nat.le_refl _)] at h
      exact Sl.drewN h z
    have Q1 := Lib.hid q1; clear q1
    have Q2 := Lib.hid q2; clear q2
    by_cases hck : adler ((x.drop 8).take m) = be4 (x.drop 4)
    · have hck' : ((adler ((x.drop 8).take m) : Int) == (be4 (x.drop 4) : Int)) = true := by simp; omega
      have hck'' : ((adler ((x.drop 8).take m) : Int) != (be4 (x.drop 4) : Int)) = false := by simp; omega
      have HCK := Lib.hid hck; clear hck
      go_wp2_with fail
      go_quiet ((first
        | (go_at_call 33; exact quiet_eq (checksum_any _ _ _ _ _ (Q1.out _)))
        | (go_at_call 34; exact quiet_eq (get_any _ _ _ _ _ (Q2.out _) (by omega)))))
      have hrl : ((x.drop 8).take m).length = m := by rw [List.length_take, List.length_drop, HLEN.out]; omega
      have Q3 : Hid (0 < (((x.drop 8).take m).map B).length → some (⟨wr.heap.size, 0, none⟩ : Addr) = some ⟨wr.heap.size, 0, none⟩ ∧ ∃ ad, some (⟨b, o + 8, none⟩ : Addr) = some ad ∧ ∀ j v, (((x.drop 8).take m).map B)[j]? = some v → wr.cell? (ad.add j) = some v) :=
        fun _ => ⟨rfl, _, rfl, Sl.cellAt (Q1.out 0)⟩
      have HRL := Lib.hid hrl; clear hrl
      obtain ⟨vs, ho1, ho2⟩ := hown
      have HO2 := Lib.hid ho2; clear ho2
      go_wp2_with (first
        | (at_make; refine wpList_make_row rfl (.tmp 40) (.tmp 40) 23 rfl 5 (.int .u8 0) 1 Try.underlying23 info5 rfl .i64 .i64 _ _ m rfl rfl rfl rfl (by omega) (by unfold maxLen; omega) ?_; intro w1 hg1 hgr1 hs1
           have hb1 : Below wr.heap.size wr w1 := (below_drewN (Below.refl _ _) _).grown hgr1 (Nat.le_refl _) (by simp)
           have HG1 : Hid (w1.heap[wr.heap.size]? = some (.cells (List.replicate m (Value.int .u8 0)).toArray 5 (0, 0))) := hg1
           clear hg1)
        | (refine wpList_copy_splice rfl (.tmp 42) (.tmp 44) 23 23 rfl 5 Try.underlying23 (by kernel_rfl) (some ⟨wr.heap.size, 0, none⟩) (some ⟨b, o + 8, none⟩) m m (n' - 8) (c' - 8) rfl rfl wr.heap.size 0 (List.replicate m (.int .u8 0)) 5 HG1.out (((x.drop 8).take m).map B) (by rw [List.length_map, HRL.out]; exact (Nat.min_eq_right (by omega)).symm) (fun h => ⟨rfl, _, rfl, (Sl.below (Q1.out 0) hb1).cellAt⟩) (by rw [List.length_map, HRL.out, List.length_replicate]; omega) (oneCell_B _) wr.heap.size wr hb1 (Nat.le_refl _) ?_; intro w2 HG2 hb2)
        | (at_builtin; refine wpList_append_sl rfl (.tmp 46) (.tmp 48) 22 rfl w.heap.size 23 (.slice none 0 0) 1 24 Try.underlying22 info23 rfl (by omega) u4 _ _ rfl ((ownsRow_below ho1 hb2).alloc _) (some ⟨w2.heap.size, 0, none⟩) 1 1 [.slice (some ⟨wr.heap.size, 0, none⟩) m m] rfl (Sl.one_new _ _ _) (by simp [Value.oneCell']) (by unfold maxLen; omega) (by omega) (by have := hb.size; have := hb2.size; simp; omega) ?_; intro v3 w3 hown3 hgr3 hblk3))
      have hs2 := hb2.size
      have hsplice : splice (List.replicate m (Value.int .u8 0)) 0 (((x.drop 8).take m).map B) = ((x.drop 8).take m).map B := splice_all _ _ (by rw [List.length_map, HRL.out, List.length_replicate])
      have hg2 := HG2.out
      rw [hsplice] at hg2
      have hnew := OwnRecs.add (L := L) ho1 HO2.out hb.size hb2 (Bs.ofHeap hg2 HRL.out (by unfold maxLen; omega)) (fun y hy => by cases hy; exact ⟨Nat.le_refl _, (Array.getElem?_eq_some_iff.1 hg2).1⟩) _ hown3 hgr3 hblk3
      have hbel : Below w.heap.size w w3 := ((hb.trans (hb2.mono hb.size)).alloc (by have := hb.size; omega) _).grown hgr3 (by have := hb.size; simp; omega) (fun k hk => (ho1.lt k hk).1)
      have hscan : Hid (scan l = (L ++ [(x.drop 8).take m] ++ (scan (l.drop (k + (8 + m)))).1, k + (8 + m) + (scan (l.drop (k + (8 + m)))).2)) := by
        show _ = _
        have hx1 : headB x = true := by
          have h1 := HM.out; have h2 := HLEN.out; have h3 := HCK.out
          simp [headB, h1, h2, h3]; omega
        rw [HS.out, scan_yes hx1, HM.out, ← HX.out, List.drop_drop]
        simp [Nat.add_assoc]
      go_roundw
      case rel => exact ⟨k + (8 + m), _, by omega, by go_num, hnew, hbel, hscan, by simp; omega⟩
      case measure => simp [intOf]; omega
    · have hck' : ((adler ((x.drop 8).take m) : Int) == (be4 (x.drop 4) : Int)) = false := by simp; omega
      have hck'' : ((adler ((x.drop 8).take m) : Int) != (be4 (x.drop 4) : Int)) = true := by simp; omega
      have HCK := Lib.hid hck; clear hck
      go_wp2_with fail
      go_quiet ((first
        | (go_at_call 33; exact quiet_eq (checksum_any _ _ _ _ _ (Q1.out _)))
        | (go_at_call 34; exact quiet_eq (get_any _ _ _ _ _ (Q2.out _) (by omega)))))
      go_wp2_with fail
      rw [Exit.noGoto_ret]
      go_ret2
      exact scanned_of (hown.drewN _) (below_drewN hb _) HS (headB_5 (by rw [HM.out]; exact HCK.out))
end Go.Proofs.Ytelbapljkefjcaa
