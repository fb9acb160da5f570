/-
  awake, few: what every statement of the chapter asks first.
-/
import Derived.Test.YtelbapljkefjcaaRJour
namespace Go.Proofs.Ytelbapljkefjcaa
open Go.RowKit

theorem open_new (n : Int) : (DS.new n).open = (DS.new n, [], 0) := by
  have h : scan [] = ([], 0) := scan_no (by rfl)
  simp [DS.open, DS.new, h]

theorem frame97 : frame [97] = [0, 0, 0, 1, 0, 98, 0, 98, 97] := by decide
theorem append97 : (JS.append ⟨DS.new 100, 0, false⟩ [97]) = (⟨⟨100, [0, 0, 0, 1, 0, 98, 0, 98, 97], 9, false, 0⟩, 1, false⟩, 0) := by rfl

theorem run_eql_ptr_nil {P : Program} (w : World) (t e : TypeId) (a : Addr) (h : P.underlying t = some (.pointer e)) :
    (binOp .eql t (.pointer (some a)) (.pointer none)).run P w = .ok (.bool false) w := by
  have hq : ∀ d : Nat, (Op.equalIn (d + 1) t (.pointer (some a)) (.pointer none)).run P w = .ok false w := fun d => by simp [Op.equalIn, run_underlying h]
  simp only [binOp]
  simp [Op.equal, Op.maxDepth, hq 9999]

set_option maxHeartbeats 1600000 in
theorem awake_any (w : World) : Calls Try.prog 10 #[] w fun e w' => e = .returned (.bool true) ∧ Below w.heap.size w w' := by
  have hnil := fun (w' : World) (a : Addr) => run_eql_ptr_nil (P := Try.prog) w' 33 66 a Try.underlying33
  go_enter Try.func10, Try.ntmps10
  go_wp2_with fail
  refine (NewDevice_any 100 w w.heap.size (Nat.le_refl _)).mono ?_
  rintro e w1 ⟨rfl, h1, hb1, hz1⟩
  have H1 := Lib.hid h1; clear h1
  have HB1 := Lib.hid hb1; clear hb1
  have HZ1 := Lib.hid hz1; clear hz1
  go_wp2_with fail
  refine (Open_any _ _ _ _ _ H1.out).mono ?_
  rintro e w2 ⟨dv2, h2, hm2, hp⟩
  rw [open_new] at h2 hp
  simp only [if_true] at hp
  obtain ⟨j, a2, c2, rfl, hj2, hlj, hdj, hrec⟩ := hp
  simp only [List.length_nil] at hj2
  clear hrec
  have H2 := Lib.hid h2; clear h2
  have HJ2 := Lib.hid hj2; clear hj2
  have HDJ := Lib.hid hdj; clear hdj
  have HM2 := Lib.hid hm2; clear hm2
  have hz1 : w1.heap.size ≤ w2.heap.size := HM2.out.size
  have hzz : w.heap.size < w1.heap.size := by have := HZ1.out; omega
  go_wp2_with fail
  have hw2 : Below w2.heap.size w2 (w2.alloc (.cells #[.int .u8 97] 5)) := Below.allocR _ _
  have hs2 : Bs (w2.alloc (.cells #[.int .u8 97] 5)) (some ⟨w2.heap.size, 0, none⟩) 1 1 [97] := Sl.one_new w2 (.int .u8 97) 5
  refine (Append_any j w.heap.size w.heap.size dv2 ⟨DS.new 100, 0, false⟩ _ (H2.out.below hw2) (HJ2.out.below hw2) (by omega) HDJ.out (by decide) _ _ _ [97] hs2).mono ?_
  clear hs2
  rintro e w3 ⟨rfl, dv3, h3, hj3, hm3, hd3⟩
  rw [append97] at h3 hj3 ⊢
  have hzj := HJ2.out.lt
  have hz3 : w2.heap.size + 1 ≤ w3.heap.size := by have := hm3.size; simpa using this
  have HB3 : Hid (Below w.heap.size w w3) := ((HB1.out.trans (HM2.out.below (Nat.le_refl _) (fun k hk => by simp [Value.ownBlock] at hk) (by omega))).trans (hw2.mono (by omega))).trans (hm3.below (by omega) (Nat.le_refl _) (fun k hk => (H2.out.own.lt k hk).1) (by simp; omega))
  have H3 := Lib.hid h3; clear h3
  have HJ3 := Lib.hid hj3; clear hj3
  clear hm3 hd3 hw2
  go_wp2_with fail
  have hw3 : Below w3.heap.size w3 (w3.alloc (.cells #[.int .u8 97] 5)) := Below.allocR _ _
  have hs3 : Bs (w3.alloc (.cells #[.int .u8 97] 5)) (some ⟨w3.heap.size, 0, none⟩) 1 1 [97] := Sl.one_new w3 (.int .u8 97) 5
  refine (Frame_any _ _ _ [97] _ hs3).mono ?_
  clear hs3
  rintro e w4 ⟨a4, c4, rfl, hown4, hb4⟩
  have HB34 : Hid (Below w3.heap.size w3 w4) := hw3.trans (hb4.mono (by simp))
  clear hw3 hb4
  obtain ⟨_, _, ee, hs4, _⟩ := ownsRow_sl hown4
  obtain ⟨rfl, _, rfl⟩ := Value.slice.inj ee
  clear hown4
  rw [frame97] at hs4 ⊢
  have HS4 := Lib.hid hs4; clear hs4
  go_wp2_with fail
  have H4 := Lib.hid (H3.out.below HB34.out)
  have HJ4 := Lib.hid (HJ3.out.below HB34.out)
  have hw4 : Below w4.heap.size w4 w4.drew := (Below.refl _ _).drew
  have hcv4 : (convert 23 9 (.slice a4 9 c4)).run Try.prog w4 = .ok (.string ⟨[0, 0, 0, 1, 0, 98, 0, 98, 97].toArray⟩) w4 := run_conv_bs w4 23 9 5 Try.underlying23 Try.underlying5 Try.underlying9 a4 9 c4 _ HS4.out
  go_region_with (first
    | (go_at_call 21; refine (Bytes_any w.heap.size w.heap.size dv3 ⟨100, [0, 0, 0, 1, 0, 98, 0, 98, 97], 9, false, 0⟩ _ (by first | exact H4.out.below hbb | exact H4.out.below hw4)).mono ?_
       rintro e w5 ⟨a5, c5, rfl, hs5, hb5⟩
       have hbb : Below w4.heap.size w4 w5 := by first | exact Below.trans hbb (hb5.mono hbb.size) | exact Below.trans hw4 (hb5.mono hw4.size)
       have hcv5 : (convert 23 9 (.slice a5 9 c5)).run Try.prog w5 = .ok (.string ⟨[0, 0, 0, 1, 0, 98, 0, 98, 97].toArray⟩) w5 := run_conv_bs w5 23 9 5 Try.underlying23 Try.underlying5 Try.underlying9 a5 9 c5 _ hs5
       have hcvf : (convert 23 9 (.slice a4 9 c4)).run Try.prog w5 = .ok (.string ⟨[0, 0, 0, 1, 0, 98, 0, 98, 97].toArray⟩) w5 := run_conv_bs w5 23 9 5 Try.underlying23 Try.underlying5 Try.underlying9 a4 9 c4 _ (Sl.below HS4.out hbb)
       clear hs5 hb5)
    | (go_at_call 17; refine (Len_any j w.heap.size w.heap.size 1 false _ (by exact HJ4.out.below hbb)).mono ?_; rintro e w' ⟨rfl, rfl⟩)
    | (go_at_call 22; refine (Down_any w.heap.size w.heap.size dv3 ⟨100, [0, 0, 0, 1, 0, 98, 0, 98, 97], 9, false, 0⟩ _ (by exact H4.out.below hbb)).mono ?_; rintro e w' ⟨rfl, rfl⟩))
  all_goals
    have hsz : w.heap.size ≤ w4.heap.size := by have := HB34.out.size; have := HB3.out.size; omega
    have hbf := (HB3.out.trans (HB34.out.mono HB3.out.size)).trans (hbb.mono hsz)
    go_wp2_with fail
    go_ret
    exact ⟨rfl, hbf⟩
end Go.Proofs.Ytelbapljkefjcaa
