/-
  Scan of the reference.
-/
import Derived.Test.YtelbapljkefjcaaScan
namespace Go.Proofs.Ytelbapljkefjcaa
open Go.RowKit

theorem be4_take (x : List UInt8) : be4 (x.take 4) = be4 x := by
  simp [be4, List.getD]

set_option maxRecDepth 100000 in
set_option maxHeartbeats 800000 in
theorem RScan_any (a : Option Addr) (n c : Nat) (l : List UInt8) (w : World) (hv : Bs w a n c l) (hn : n ≤ 1048576) :
    Calls Try.prog 43 #[.slice a n c] w (Scanned w l) := by
  have hc := hv.le_cap
  have hm := hv.cap_le
  have hl := hv.length
  unfold maxLen at hm
  have HV := Lib.hid hv; clear hv
  have HL := Lib.hid hl; clear hl
  go_enter Try.func43, Try.ntmps43
  go_wp2
  go_loopw [4, 5] (fun v i wr => ∃ k : Nat, ∃ L, k ≤ n ∧ i = .int .i64 k ∧ OwnRecs wr w.heap.size v L ∧ Below w.heap.size w wr ∧ Hid (scan l = (L ++ (scan (l.drop k)).1, k + (scan (l.drop k)).2)) ∧ L.length ≤ k) (fun _ i _ => n - (intOf i).toNat)
  case atStart => exact ⟨0, [], Nat.zero_le _, rfl, ⟨[], by simpa using World.ownsRow_lit w #[] 0 (Nat.le_refl _) (Nat.zero_le _) rfl, RL.nil _ _⟩, (Below.refl _ _).alloc (Nat.le_refl _) _, show _ = _ by simp, Nat.le_refl _⟩
  case round =>
    obtain ⟨k, L, hk, rfl, hown, hb, HS, hLk⟩ := hrel
    have hvr : Bs wr a n c l := HV.out.below hb
    by_cases h8 : n < k + 8
    · have hlen : (l.drop k).length < 8 := by rw [List.length_drop, HL.out]; omega
      go_wp2_with fail
      go_ret2
      exact scanned_of hown hb HS (headB_1 hlen)
    obtain ⟨b, o, rfl, _⟩ := hvr.at (i := 0) (by omega)
    have f4 : ¬ c = k := by omega
    have f6 : ((k : Int) + 4).toNat = k + 4 := by omega
    have f7 : k + 4 - k = 4 := by omega
    have hx4 : Bs wr (some ⟨b, o + k, none⟩) 4 (c - k) ((l.drop k).take 4) := by
      have h := Bs.cut hvr (lo := k) (hi := k + 4) (by omega) (by omega) (a' := some ⟨b, o + k, none⟩) (fun _ _ e _ => by cases e; rfl) (by simp)
      rw [f7] at h
      exact h
    have HX4 := Lib.hid hx4; clear hx4
    go_wp2_with fail
    refine (number_any _ _ _ _ _ HX4.out (by omega)).mono ?_
    rintro e w' ⟨rfl, z1, rfl⟩
    rw [be4_take]
    have hlt := be4_lt (l.drop k)
    have HV1 := Lib.hid hvr; clear hvr
    have HLEN : Hid ((l.drop k).length = n - k) := by show _ = _; rw [List.length_drop, HL.out]
    generalize hx : l.drop k = x at *
    have HX := Lib.hid hx; clear hx
    generalize hm4 : be4 x = m at *
    have HM := Lib.hid hm4; clear hm4
    by_cases hm1 : m < 1
    · go_wp2_with fail
      go_ret2
      exact scanned_of (hown.drewN _) (below_drewN hb _) HS (headB_2 (by rw [HM.out]; omega))
    by_cases hm2 : 8192 < m
    · go_wp2_with fail
      go_ret2
      exact scanned_of (hown.drewN _) (below_drewN hb _) HS (headB_3 (by rw [HM.out]; omega))
    by_cases hm3 : n - k - 8 < m
    · go_wp2_with fail
      go_ret2
      exact scanned_of (hown.drewN _) (below_drewN hb _) HS (headB_4 (by rw [HM.out, HLEN.out]; omega))
    have g1 : ¬ c = k + 8 := by omega
    have g2 : ((k : Int) + 8).toNat = k + 8 := by omega
    have g3 : ((k : Int) + 8 + (m : Int)).toNat = k + 8 + m := by omega
    have g4 : k + 8 + m - (k + 8) = m := by omega
    obtain ⟨vs, ho1, ho2⟩ := hown
    have HO2 := Lib.hid ho2; clear ho2
    have hrec : ∀ u, Bs ((wr.drewN z1).alloc u) (some ⟨b, o + (k + 8), none⟩) m (c - (k + 8)) ((x.drop 8).take m) := fun u => by
      have h := Bs.cut HV1.out (lo := k + 8) (hi := k + 8 + m) (by omega) (by omega) (a' := some ⟨b, o + (k + 8), none⟩) (fun _ _ e _ => by cases e; rfl) (by simp)
      rw [g4, ← List.drop_drop, HX.out] at h
      exact Sl.below (Sl.drewN h z1) ((Below.refl _ _).alloc (Nat.le_refl _) _)
    have HREC := Lib.hid hrec; clear hrec
    go_wp2_with (first
      | (at_builtin; go_loud (refine wpList_append_sl rfl (.tmp 37) (.tmp 45) 23 rfl wr.heap.size 5 (.int .u8 0) 1 1 Try.underlying23 info5 rfl (by omega) (.slice (some ⟨wr.heap.size, 0, none⟩) 0 0) 0 [] rfl (by simpa using World.ownsRow_lit (wr.drewN z1) #[] 0 (Nat.le_refl _) (Nat.zero_le _) rfl) (some ⟨b, o + (k + 8), none⟩) m (c - (k + 8)) _ rfl (HREC.out _) (oneCell_B _) (by unfold maxLen; omega) (by omega) (by simp) ?_); intro v7 w7 hown7 hgr7 hblk7))
    simp only [Nat.zero_add, List.nil_append] at hown7
    obtain ⟨a7, c7, rfl, hs7, hbl7⟩ := ownsRow_sl hown7
    have hb7 : Below wr.heap.size wr w7 := ((below_drewN (Below.refl _ _) z1).alloc (Nat.le_refl _) _).grown hgr7 (by simp) (fun q hq => by cases hq; exact Nat.le_refl _)
    have i1 : IntKind.i64.wrap ((k : Int) + 4) = (k : Int) + 4 := IntWalk.i64_in _ (by omega)
    have i2 : IntKind.i64.wrap ((k : Int) + 8) = (k : Int) + 8 := IntWalk.i64_in _ (by omega)
    have i3 : (0 : Int) ≤ (k : Int) + 4 := by omega
    have i4 : (k : Int) + 4 ≤ (k : Int) + 8 := by omega
    have i5 : (k : Int) + 8 ≤ (c : Int) := by omega
    have i6 : ¬ c = k + 4 := by omega
    have i7 : k + 8 - (k + 4) = 4 := by omega
    have i8 : ((k : Int) + 4).toNat = k + 4 := by omega
    have q4 : ∀ z, Bs (w7.drewN z) (some ⟨b, o + (k + 4), none⟩) 4 (c - (k + 4)) ((x.drop 4).take 4) := fun z => by
      have h := Bs.cut (HV1.out.below hb7) (lo := k + 4) (hi := k + 8) (by omega) (by omega) (a' := some ⟨b, o + (k + 4), none⟩) (fun _ _ e _ => by cases e; rfl) (by simp)
      rw [i7, ← List.drop_drop, HX.out] at h
      exact Sl.drewN h z
    have Q4 := Lib.hid q4; clear q4
    have HS7 := Lib.hid hs7; clear hs7
    have HB7 := Lib.hid hbl7; clear hbl7
    by_cases hck : adler ((x.drop 8).take m) = be4 (x.drop 4)
    · have hck' : ((adler ((x.drop 8).take m) : Int) == (be4 ((x.drop 4).take 4) : Int)) = true := by rw [be4_take]; simp; omega
      have hck'' : ((adler ((x.drop 8).take m) : Int) != (be4 ((x.drop 4).take 4) : Int)) = false := by rw [be4_take]; simp; omega
      have HCK := Lib.hid hck; clear hck
      go_wp2_with fail
      go_quiet ((first
        | (go_at_call 47; exact quiet_eq (rchecksum_any _ _ _ _ _ (Sl.drewN HS7.out _)))
        | (go_at_call 46; exact Calls.quiet_of (number_any _ _ _ _ _ (Q4.out _) (by omega)))))
      have hbs := hb.size
      have hbs7 := hb7.size
      go_wp2_with (first
        | (at_builtin; go_loud (refine wpList_append_sl rfl (.tmp 59) (.tmp 61) 22 rfl w.heap.size 23 (.slice none 0 0) 1 24 Try.underlying22 info23 rfl (by omega) u4 _ _ rfl ((ownsRow_below ho1 (below_drewN hb7 nq)).alloc _) (some ⟨(w7.drewN nq).heap.size, 0, none⟩) 1 1 [.slice a7 m c7] rfl (Sl.one_new _ _ _) (by simp [Value.oneCell']) (by unfold maxLen; omega) (by omega) (by simp; omega) ?_); intro v3 w3 hown3 hgr3 hblk3))
      have hnew := OwnRecs.add (L := L) ho1 HO2.out hb.size (below_drewN hb7 nq) (Sl.drewN HS7.out nq) (fun y hy => by
        have h1 := HB7.out y.block
        have h2 : (Value.slice a7 m c7).ownBlock = some y.block := by subst hy; rfl
        exact ⟨(hown7.lt _ h2).1, (hown7.lt _ h2).2⟩) _ hown3 hgr3 hblk3
      have hbel : Below w.heap.size w w3 := ((below_drewN (hb.trans (hb7.mono hb.size)) nq).alloc (by simp; omega) _).grown hgr3 (by simp; omega) (fun k hk => (ho1.lt k hk).1)
      have hscan : Hid (scan l = (L ++ [(x.drop 8).take m] ++ (scan (l.drop (k + (8 + m)))).1, k + (8 + m) + (scan (l.drop (k + (8 + m)))).2)) := by
        show _ = _
        have hx1 : headB x = true := by
          have h1 := HM.out; have h2 := HLEN.out; have h3 := HCK.out
          simp [headB, h1, h2, h3]; omega
        rw [HS.out, scan_yes hx1, HM.out, ← HX.out, List.drop_drop]
        simp [Nat.add_assoc]
      go_roundw
      case rel => exact ⟨k + (8 + m), _, by omega, by go_num, hnew, hbel, hscan, by simp; omega⟩
      case measure => simp [intOf]; omega
    · have hck' : ((adler ((x.drop 8).take m) : Int) == (be4 ((x.drop 4).take 4) : Int)) = false := by rw [be4_take]; simp; omega
      have hck'' : ((adler ((x.drop 8).take m) : Int) != (be4 ((x.drop 4).take 4) : Int)) = true := by rw [be4_take]; simp; omega
      have HCK := Lib.hid hck; clear hck
      go_wp2_with fail
      go_quiet ((first
        | (go_at_call 47; exact quiet_eq (rchecksum_any _ _ _ _ _ (Sl.drewN HS7.out _)))
        | (go_at_call 46; exact Calls.quiet_of (number_any _ _ _ _ _ (Q4.out _) (by omega)))))
      go_wp2_with fail
      go_ret2
      have hown : OwnRecs wr w.heap.size u4 L := ⟨vs, ho1, HO2.out⟩
      exact scanned_of ((hown.below hb7).drewN _) (below_drewN (hb.trans (hb7.mono hb.size)) _) HS (headB_5 (by rw [HM.out]; exact HCK.out))
end Go.Proofs.Ytelbapljkefjcaa
