/-
  The walk of JournalAppends. Printed by appends.py.
-/
import Derived.Test.YtelbapljkefjcaaLFrames
import Derived.Test.YtelbapljkefjcaaPlain7
import Derived.Test.YtelbapljkefjcaaApart
namespace Go.Proofs.Ytelbapljkefjcaa
open Go.RowKit

/-- append at an operation that is guarded. -/
theorem wpList_append_g {P : Program} {w : World} {ops : Array Oper} {rest : List Oper} {o : Oper} {a : Act} {Q : Exit → Act → World → Prop} (hgd : Region.wanted o (yielded ops a.tmps) = true) (s x : Operand) (t : TypeId)
    (ho : o.op = .call { callee := .builtin .append, args := #[s, x], argTypes := #[t, t] })
    (base : Nat) (e : TypeId) (z : Value) (size bytes : Nat) (ht : P.underlying t = some (.slice e)) (hinfo : (P.info? e).map (fun i => (i.zero, i.size, i.bytes)) = some (some z, size, bytes))
    (hzs : z.cells.size = size) (hsz : 0 < size)
    (v : Value) (n : Nat) (xs : List Value) (hs : a.eval s = v) (hown : w.ownsRow base e size v n xs)
    (ad : Option Addr) (m c : Nat) (news : List Value) (hx : a.eval x = .slice ad m c) (hsl : Sl w size ad m c news) (h1 : ∀ u ∈ news, u.oneCell' = true)
    (h63 : n + m ≤ maxLen) (hbytes : (n + m) * bytes ≤ 140737488355328) (hbase : base ≤ w.heap.size)
    (N : Nat) (hN : N = n + m) (X : List Value) (hX : X = xs ++ news)
    (h : ∀ a' c' w', w'.ownsRow base e size (.slice a' N c') N X → w.grownBy w' v.ownBlock → ((Value.slice a' N c').ownBlock = v.ownBlock ∨ (Value.slice a' N c').ownBlock = some w.heap.size) → wpList P ops Q rest (a.put o.dst (.slice a' N c')) w') : wpList P ops Q (o :: rest) a w := by
  subst hN; subst hX
  obtain ⟨i, hi, hz, hsize, hby⟩ := info_parts hinfo
  obtain ⟨v', w', hr, h2, h3, h4⟩ := run_append_sl (P := P) w base t o.type e i z size bytes ht hi hz hsize hby hzs hsz v n xs hown ad m c news hsl h1 h63 hbytes hbase
  refine wpList_step fun K hK => ?_
  rw [if_pos hgd]
  unfold Oper.wp
  simp [execOp, ho, resolve, invoke, builtin, hs, hx, hr, Result.andThen]
  obtain ⟨a', c', rfl, _, _⟩ := ownsRow_sl h2
  exact hK _ _ (h a' c' w' h2 h3 h4)

theorem RL.oneCell {w : World} {vs : List Value} {L : List (List UInt8)} {F : Nat → Prop} (h : RL w vs L F) : ∀ u ∈ vs, u.oneCell' = true := fun u hu => by
  obtain ⟨i, hi, rfl⟩ := List.getElem_of_mem hu
  obtain ⟨a, n, c, h1, _⟩ := h.2 i (L[i]'(by rw [← h.1]; exact hi)) (List.getElem?_eq_getElem _)
  rw [List.getElem?_eq_getElem hi] at h1
  rw [Option.some.inj h1]
  rfl
theorem RL.append {w : World} {xs ys : List Value} {L M : List (List UInt8)} {F : Nat → Prop} (h : RL w xs L F) (k : RL w ys M F) : RL w (xs ++ ys) (L ++ M) F := by
  refine ⟨by rw [List.length_append, List.length_append, h.1, k.1], fun i l hi => ?_⟩
  rcases Nat.lt_or_ge i L.length with hlt | hge
  · rw [List.getElem?_append_left hlt] at hi
    rw [List.getElem?_append_left (by rw [h.1]; exact hlt)]
    exact h.2 i l hi
  · rw [List.getElem?_append_right hge] at hi
    rw [List.getElem?_append_right (by rw [h.1]; exact hge), h.1]
    exact k.2 _ l hi

set_option maxRecDepth 100000 in
set_option maxHeartbeats 3200000 in
theorem appends_any (a : Option Addr) (n c : Nat) (L : List (List UInt8)) (a' : Option Addr) (n' c' : Nat) (M : List (List UInt8)) (w : World) (hv : Recs w a n c L) (hv' : Recs w a' n' c' M) :
    Calls Try.prog 5 #[.slice a n c, .slice a' n' c'] w (Holds w) := by
  have hl := hv.length
  have hl' := hv'.length
  have HV := Lib.hid hv; clear hv
  have HV' := Lib.hid hv'; clear hv'
  have HL := Lib.hid hl; clear hl
  have HL' := Lib.hid hl'; clear hl'
  by_cases h1 : 6 < n
  · go_enter Try.func5, Try.ntmps5
    go_wp2_with fail
    refine (awake_any w).mono ?_
    rintro e w1 ⟨rfl, hb1⟩
    go_wp2_with fail
    refine (awake_any w1).mono ?_
    rintro e w2 ⟨rfl, hb2⟩
    go_wp2_with fail
    go_ret
    exact ⟨rfl, hb1.trans (hb2.mono hb1.size)⟩
  by_cases h2 : 6 < n'
  · go_enter Try.func5, Try.ntmps5
    go_wp2_with fail
    refine (awake_any w).mono ?_
    rintro e w1 ⟨rfl, hb1⟩
    go_wp2_with fail
    refine (awake_any w1).mono ?_
    rintro e w2 ⟨rfl, hb2⟩
    go_wp2_with fail
    go_ret
    exact ⟨rfl, hb1.trans (hb2.mono hb1.size)⟩
  go_enter Try.func5, Try.ntmps5
  go_wp2_with fail
  refine (awake_any w).mono ?_
  rintro e w1 ⟨rfl, hb1⟩
  have hz1 := hb1.size
  have HB1 := Lib.hid hb1; clear hb1
  go_wp2_with fail
  refine (NewDevice_any 8000 w1 w.heap.size hz1).mono ?_
  rintro e w2 ⟨rfl, h2, hb2, hz2⟩
  rw [show DS.new 8000 = calm 8000 [] from new_calm (n := 8000) (by decide)] at h2
  have HB2 : Hid (Below w.heap.size w w2) := HB1.out.trans (hb2.mono hz1)
  have hz2' : w.heap.size ≤ w2.heap.size := by omega
  clear hb2 hz2
  have H2 := Lib.hid h2; clear h2
  go_wp2_with fail
  go_loopw [6] (fun i wr => ∃ rr : Nat, ∃ dv, rr ≤ 2 ∧ i = .int .i64 rr ∧ Below w.heap.size w wr ∧ Dev wr w.heap.size 63 w1.heap.size dv (calm 8000 (laidR L M rr)) ∧ Hid (∀ r ∈ laidR L M rr, 1 ≤ r.length ∧ r.length ≤ 300)) (fun i _ => 2 - (intOf i).toNat)
  case atStart => exact ⟨0, _, by omega, rfl, HB2.out, H2.out, fun r hr => by simp [laidR] at hr⟩
  case round =>
    obtain ⟨rr, dv, hrr, rfl, hb, hd, hR⟩ := hrel
    have HB := Lib.hid hb; clear hb
    have HD := Lib.hid hd; clear hd
    have hzr := HB.out.size
    have hcase : rr = 0 ∨ rr = 1 ∨ rr = 2 := by omega
    rcases hcase with rfl | rfl | rfl
    · have hval : ∀ r ∈ laidR L M 0, validB r.length = true := fun r hr => by have := hR.out r hr; simp [validB]; omega
      have HVAL := Lib.hid hval; clear hval
      go_wp2_with fail
      refine (Open_any _ _ _ _ _ HD.out).mono ?_
      rintro e w3 ⟨dv3, h3, hm3, hp⟩
      rw [calm_open _ HVAL.out] at h3 hp
      simp only [if_true] at hp
      obtain ⟨j, a3, c3, rfl, hj3, hlj, hdj, hrec⟩ := hp
      clear hrec
      have hgl := HD.out.lt
      have hjg : j ≠ w1.heap.size := by omega
      have HB3 : Hid (Below w.heap.size w w3) := HB.out.trans (hm3.below HD.out.low (fun k hk => (HD.out.own.lt k hk).1) hzr)
      clear hm3 hgl
      have H3 := Lib.hid h3; clear h3
      have hjl : (laidR L M 0).length = 0 := by simp [laidR]
      rw [hjl] at hj3
      clear hjl
      have HJ3 := Lib.hid hj3; clear hj3
      have HDJ := Lib.hid hdj; clear hdj
      go_wp2_with fail
      go_loopw [11] (fun i wq => ∃ k : Nat, ∃ dv, k ≤ n ∧ i = .int .i64 k ∧ Below w.heap.size w wq ∧ Dev wq w.heap.size 63 w1.heap.size dv (calm 8000 (laidR L M 0 ++ L.take k)) ∧ Jn wq w.heap.size 66 j w1.heap.size (0 + k) false ∧ Hid (dv.ownBlock ≠ some j) ∧ Hid (∀ r ∈ laidR L M 0 ++ L.take k, 1 ≤ r.length ∧ r.length ≤ 300)) (fun i _ => n - (intOf i).toNat)
      case atStart => exact ⟨0, dv3, by omega, rfl, HB3.out, by rw [List.take_zero, List.append_nil]; exact H3.out, HJ3.out, HDJ, by show ∀ r ∈ _, _; rw [List.take_zero, List.append_nil]; exact hR.out⟩
      case round =>
        obtain ⟨k, dq, hk, rfl, hbq, hdq, hjq, HJD, hRq⟩ := hrel
        have HBQ := Lib.hid hbq; clear hbq
        have HDQ := Lib.hid hdq; clear hdq
        have HJQ := Lib.hid hjq; clear hjq
        have HVR := Lib.hid (HV.out.below HBQ.out)
        by_cases hlt : k < n
        · obtain ⟨b, o, a1, n1, c1, rfl, hcell, hbs⟩ := HVR.out.at hlt
          have HBS := Lib.hid hbs; clear hbs
          by_cases hbad1 : n1 < 1
          · go_wp2_with fail
            go_ret
            exact ⟨rfl, HBQ.out⟩
          by_cases hbad2 : 300 < n1
          · go_wp2_with fail
            go_ret
            exact ⟨rfl, HBQ.out⟩
          have hfl := frames_length_le (laidR L M 0 ++ L.take k) 300 (fun r hr => (hRq.out r hr).2)
          have hlk : (laidR L M 0 ++ L.take k).length ≤ 12 := by simp [laidR, HL.out]; omega
          have hfl6 : (frames (laidR L M 0 ++ L.take k)).length ≤ 3696 := by have : (laidR L M 0 ++ L.take k).length * (8 + 300) ≤ 12 * 308 := Nat.mul_le_mul hlk (by omega); omega
          clear hfl hlk
          have hrl := HBS.out.length
          have HRL := Lib.hid hrl; clear hrl
          have hts := take_snoc L k (by rw [HL.out]; exact hlt)
          have HTS := Lib.hid hts; clear hts
          generalize hr : L.getD k [] = r at *
          have hvr : validB r.length = true := by rw [HRL.out]; simp [validB]; omega
          have hap := calm_append 8000 (0 + k) (laidR L M 0 ++ L.take k) r hvr (by rw [HRL.out]; omega)
          have HAP := Lib.hid hap; clear hap hvr hr hfl6
          go_wp2_with fail
          refine (Append_any j _ _ dq ⟨calm 8000 (laidR L M 0 ++ L.take k), 0 + k, false⟩ _ HDQ.out HJQ.out hjg HJD.out (by show 0 + k < _; omega) _ _ _ r HBS.out).mono ?_
          rintro e w4 ⟨rfl, dv4, h4, hj4, hm4, hd4⟩
          rw [HAP.out] at h4 hj4 ⊢
          have HB4 : Hid (Below w.heap.size w w4) := HBQ.out.trans (hm4.below HJQ.out.low HDQ.out.low (fun k hk => (HDQ.out.own.lt k hk).1) HBQ.out.size)
          have HD4 := Lib.hid hd4
          have H4 := Lib.hid h4
          have HJ4 := Lib.hid hj4
          clear h4 hj4 hm4 hd4
          have HR' : Hid (∀ s ∈ laidR L M 0 ++ L.take (k + 1), 1 ≤ s.length ∧ s.length ≤ 300) := by
            show ∀ s ∈ _, _
            rw [HTS.out, ← List.append_assoc]
            intro s hs
            rcases List.mem_append.1 hs with h | h
            · exact hRq.out s h
            · have : s = r := by simpa using h
              have := HRL.out
              subst s
              omega
          go_wp2_with fail
          go_roundw
          case rel => exact ⟨k + 1, dv4, by omega, by go_num, HB4.out, by rw [HTS.out, ← List.append_assoc]; exact H4.out, HJ4.out, HD4, HR'⟩
          case measure => simp [intOf]; omega
        · have hkn : L.take k = L := List.take_of_length_le (by rw [HL.out]; omega)
          have hR' : Hid (∀ r ∈ laidR L M 1, 1 ≤ r.length ∧ r.length ≤ 300) := by
            have h := hRq.out
            rw [hkn] at h
            exact h
          have hD' : Hid (Dev wr w.heap.size 63 w1.heap.size dq (calm 8000 (laidR L M 1))) := by
            have h := HDQ.out
            rw [hkn] at h
            exact h
          clear hkn
          go_wp2_with fail
          go_roundw
          case rel => exact ⟨1, dq, by omega, by go_num, HBQ.out, hD'.out, hR'⟩
          case measure => simp [intOf]
    · have hval : ∀ r ∈ laidR L M 1, validB r.length = true := fun r hr => by have := hR.out r hr; simp [validB]; omega
      have HVAL := Lib.hid hval; clear hval
      go_wp2_with fail
      refine (Open_any _ _ _ _ _ HD.out).mono ?_
      rintro e w3 ⟨dv3, h3, hm3, hp⟩
      rw [calm_open _ HVAL.out] at h3 hp
      simp only [if_true] at hp
      obtain ⟨j, a3, c3, rfl, hj3, hlj, hdj, hrec⟩ := hp
      clear hrec
      have hgl := HD.out.lt
      have hjg : j ≠ w1.heap.size := by omega
      have HB3 : Hid (Below w.heap.size w w3) := HB.out.trans (hm3.below HD.out.low (fun k hk => (HD.out.own.lt k hk).1) hzr)
      clear hm3 hgl
      have H3 := Lib.hid h3; clear h3
      have hjl : (laidR L M 1).length = n := by simp [laidR, HL.out]
      rw [hjl] at hj3
      clear hjl
      have HJ3 := Lib.hid hj3; clear hj3
      have HDJ := Lib.hid hdj; clear hdj
      go_wp2_with fail
      go_loopw [11] (fun i wq => ∃ k : Nat, ∃ dv, k ≤ n' ∧ i = .int .i64 k ∧ Below w.heap.size w wq ∧ Dev wq w.heap.size 63 w1.heap.size dv (calm 8000 (laidR L M 1 ++ M.take k)) ∧ Jn wq w.heap.size 66 j w1.heap.size (n + k) false ∧ Hid (dv.ownBlock ≠ some j) ∧ Hid (∀ r ∈ laidR L M 1 ++ M.take k, 1 ≤ r.length ∧ r.length ≤ 300)) (fun i _ => n' - (intOf i).toNat)
      case atStart => exact ⟨0, dv3, by omega, rfl, HB3.out, by rw [List.take_zero, List.append_nil]; exact H3.out, HJ3.out, HDJ, by show ∀ r ∈ _, _; rw [List.take_zero, List.append_nil]; exact hR.out⟩
      case round =>
        obtain ⟨k, dq, hk, rfl, hbq, hdq, hjq, HJD, hRq⟩ := hrel
        have HBQ := Lib.hid hbq; clear hbq
        have HDQ := Lib.hid hdq; clear hdq
        have HJQ := Lib.hid hjq; clear hjq
        have HVR := Lib.hid (HV'.out.below HBQ.out)
        by_cases hlt : k < n'
        · obtain ⟨b, o, a1, n1, c1, rfl, hcell, hbs⟩ := HVR.out.at hlt
          have HBS := Lib.hid hbs; clear hbs
          by_cases hbad1 : n1 < 1
          · go_wp2_with fail
            go_ret
            exact ⟨rfl, HBQ.out⟩
          by_cases hbad2 : 300 < n1
          · go_wp2_with fail
            go_ret
            exact ⟨rfl, HBQ.out⟩
          have hfl := frames_length_le (laidR L M 1 ++ M.take k) 300 (fun r hr => (hRq.out r hr).2)
          have hlk : (laidR L M 1 ++ M.take k).length ≤ 12 := by simp [laidR, HL.out, HL'.out]; omega
          have hfl6 : (frames (laidR L M 1 ++ M.take k)).length ≤ 3696 := by have : (laidR L M 1 ++ M.take k).length * (8 + 300) ≤ 12 * 308 := Nat.mul_le_mul hlk (by omega); omega
          clear hfl hlk
          have hrl := HBS.out.length
          have HRL := Lib.hid hrl; clear hrl
          have hts := take_snoc M k (by rw [HL'.out]; exact hlt)
          have HTS := Lib.hid hts; clear hts
          generalize hr : M.getD k [] = r at *
          have hvr : validB r.length = true := by rw [HRL.out]; simp [validB]; omega
          have hap := calm_append 8000 (n + k) (laidR L M 1 ++ M.take k) r hvr (by rw [HRL.out]; omega)
          have HAP := Lib.hid hap; clear hap hvr hr hfl6
          go_wp2_with fail
          refine (Append_any j _ _ dq ⟨calm 8000 (laidR L M 1 ++ M.take k), n + k, false⟩ _ HDQ.out HJQ.out hjg HJD.out (by show n + k < _; omega) _ _ _ r HBS.out).mono ?_
          rintro e w4 ⟨rfl, dv4, h4, hj4, hm4, hd4⟩
          rw [HAP.out] at h4 hj4 ⊢
          have HB4 : Hid (Below w.heap.size w w4) := HBQ.out.trans (hm4.below HJQ.out.low HDQ.out.low (fun k hk => (HDQ.out.own.lt k hk).1) HBQ.out.size)
          have HD4 := Lib.hid hd4
          have H4 := Lib.hid h4
          have HJ4 := Lib.hid hj4
          clear h4 hj4 hm4 hd4
          have HR' : Hid (∀ s ∈ laidR L M 1 ++ M.take (k + 1), 1 ≤ s.length ∧ s.length ≤ 300) := by
            show ∀ s ∈ _, _
            rw [HTS.out, ← List.append_assoc]
            intro s hs
            rcases List.mem_append.1 hs with h | h
            · exact hRq.out s h
            · have : s = r := by simpa using h
              have := HRL.out
              subst s
              omega
          go_wp2_with fail
          go_roundw
          case rel => exact ⟨k + 1, dv4, by omega, by go_num, HB4.out, by rw [HTS.out, ← List.append_assoc]; exact H4.out, HJ4.out, HD4, HR'⟩
          case measure => simp [intOf]; omega
        · have hkn : M.take k = M := List.take_of_length_le (by rw [HL'.out]; omega)
          have hR' : Hid (∀ r ∈ laidR L M 2, 1 ≤ r.length ∧ r.length ≤ 300) := by
            have h := hRq.out
            rw [hkn] at h
            exact h
          have hD' : Hid (Dev wr w.heap.size 63 w1.heap.size dq (calm 8000 (laidR L M 2))) := by
            have h := HDQ.out
            rw [hkn] at h
            exact h
          clear hkn
          go_wp2_with fail
          go_roundw
          case rel => exact ⟨2, dq, by omega, by go_num, HBQ.out, hD'.out, hR'⟩
          case measure => simp [intOf]
    · have hval : ∀ r ∈ laidR L M 2, validB r.length = true := fun r hr => by have := hR.out r hr; simp [validB]; omega
      have HVAL := Lib.hid hval; clear hval
      go_wp2_with fail
      refine (Open_any _ _ _ _ _ HD.out).mono ?_
      rintro e w3 ⟨dv3, h3, hm3, hp⟩
      rw [calm_open _ HVAL.out] at h3 hp
      simp only [if_true] at hp
      obtain ⟨j, a3, c3, rfl, hj3, hlj, hdj, hrec⟩ := hp
      have HB3 : Hid (Below w.heap.size w w3) := HB.out.trans (hm3.below HD.out.low (fun k hk => (HD.out.own.lt k hk).1) hzr)
      clear hm3 h3 hdj
      obtain ⟨_, _, ee, hrs⟩ := hrec.recs
      obtain ⟨rfl, _, rfl⟩ := Value.slice.inj ee
      clear hrec ee
      have hjl : (laidR L M 2).length = n + n' := by simp [laidR, HL.out, HL'.out]
      rw [hjl] at hj3 hrs ⊢
      clear hjl
      have HJ3 := Lib.hid hj3; clear hj3
      have HRS := Lib.hid hrs; clear hrs
      obtain ⟨vl, hsl, hrl⟩ := HV.out.below HB3.out
      obtain ⟨vm, hsm, hrm⟩ := HV'.out.below HB3.out
      have HOL := Lib.hid hrl.oneCell
      have HOM := Lib.hid hrm.oneCell
      have HSL := Lib.hid hsl; clear hsl
      have HSM := Lib.hid hsm; clear hsm
      have HRL := Lib.hid hrl; clear hrl
      have HRM := Lib.hid hrm; clear hrm
      have hlit : (w3.alloc (.cells #[] 23)).ownsRow w3.heap.size 23 1 (.slice (some ⟨w3.heap.size, 0, none⟩) 0 0) 0 [] := by simpa using World.ownsRow_lit w3 #[] 0 (Nat.le_refl _) (Nat.zero_le _) rfl
      have HLIT := Lib.hid hlit; clear hlit
      have hbl : Below w3.heap.size w3 (w3.alloc (.cells #[] 23)) := Below.allocR _ _
      have HBL := Lib.hid hbl; clear hbl
      have t0 : (((n : Int) + (n' : Int)) == (n : Int) + (n' : Int)) = true := by simp
      go_wp2_with fail
      refine (Len_any _ _ _ _ _ _ HJ3.out).mono ?_
      rintro e w' ⟨rfl, rfl⟩
      go_wp2_with (first
        | (at_builtin; refine wpList_append_g rfl (.tmp 92) (.tmp 93) 22 rfl w3.heap.size 23 (.slice none 0 0) 1 24 Try.underlying22 info23 rfl (by omega) _ 0 [] rfl HLIT.out a n c vl rfl (Sl.below HSL.out HBL.out) HOL.out (by unfold maxLen; omega) (by omega) (by simp) n (by omega) vl rfl ?_; intro a4 c4 w4 hown4 hgr4 hblk4
           have HB4 : Hid (Below w3.heap.size w3 w4) := HBL.out.grown hgr4 (by simp) (fun q hq => (HLIT.out.lt q hq).1)
           have HOWN4 := Lib.hid hown4
           clear hown4 hgr4 hblk4)
        | (at_builtin; refine wpList_append_g rfl (.tmp 94) (.tmp 95) 22 rfl w3.heap.size 23 (.slice none 0 0) 1 24 Try.underlying22 info23 rfl (by omega) _ n vl rfl HOWN4.out a' n' c' vm rfl (Sl.below HSM.out HB4.out) HOM.out (by unfold maxLen; omega) (by omega) HB4.out.size (n + n') rfl _ rfl ?_; intro a5 c5 w5 hown5 hgr5 hblk5
           have HB5 : Hid (Below w3.heap.size w3 w5) := HB4.out.grown hgr5 HB4.out.size (fun q hq => (HOWN4.out.lt q hq).1)
           have HOWN5 := Lib.hid hown5
           clear hown5 hgr5 hblk5))
      obtain ⟨_, _, ee, hs5, _⟩ := ownsRow_sl HOWN5.out
      obtain ⟨rfl, _, rfl⟩ := Value.slice.inj ee
      have HR5 : Hid (Recs w5 a5 (n + n') c5 (L ++ M)) := ⟨vl ++ vm, hs5, RL.append (HRL.out.keep fun b _ h => HB5.out.block b h) (HRM.out.keep fun b _ h => HB5.out.block b h)⟩
      clear ee hs5
      refine (Same_any _ _ _ _ _ _ (laidR L M 2) (L ++ M) _ (HRS.out.below HB5.out) HR5.out (by omega) (by omega)).mono ?_
      rintro e w6 ⟨rfl, z6, rfl⟩
      go_wp2_with fail
      go_ret
      exact ⟨by simp [laidR], below_drewN (HB3.out.trans (HB5.out.mono HB3.out.size)) _⟩
end Go.Proofs.Ytelbapljkefjcaa
