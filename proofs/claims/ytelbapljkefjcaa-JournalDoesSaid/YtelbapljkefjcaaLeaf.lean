/-
  The leaves: valid, checksum, get, put of the program; number, checksum of the reference.
-/
import Derived.Test.YtelbapljkefjcaaProg
import Derived.Test.YtelbapljkefjcaaBase
import Derived.Test.YtelbapljkefjcaaPlain
import Derived.Deep.QuietTactic
import Derived.BigQuiet
import Derived.KernelRfl
import Derived.IntWalk
namespace Go.Proofs.Ytelbapljkefjcaa
open Go.RowKit

theorem ret_int {k : IntKind} {a b : Int} (h : a = b) : Ending.returned (.int k a) = .returned (.int k b) := by rw [h]
theorem info5 : (Try.prog.info? 5).map (fun i => (i.zero, i.size, i.bytes)) = some (some (.int .u8 0), 1, 1) := by kernel_rfl

set_option maxHeartbeats 400000 in
theorem valid_any (a : Option Addr) (n c : Nat) (w : World) (hn : n ≤ 9223372036854775807) :
    Calls Try.prog 31 #[.slice a n c] w fun e w' => e = .returned (.bool (validB n)) ∧ w = w' := by
  unfold validB
  go_enter Try.func31, Try.ntmps31
  go_wp2
  · have h1 : 1 ≤ n := by omega
    go_ret
    exact ⟨by simp [h1]; omega, rfl⟩
  · have h1 : n = 0 := by omega
    go_ret
    exact ⟨by simp [h1], rfl⟩

set_option maxHeartbeats 400000 in
theorem checksum_any (a : Option Addr) (n c : Nat) (l : List UInt8) (w : World) (hv : Bs w a n c l) :
    Calls Try.prog 33 #[.slice a n c] w fun e w' => e = .returned (.int .u32 (adler l)) ∧ w = w' := by
  have hc := hv.le_cap
  have hm := hv.cap_le
  have hl := hv.length
  have HB := Lib.hid (fun i (hi : i < n) => hv.at hi); clear hv
  unfold maxLen at hm
  have HL := Lib.hid hl
  have hl1 : n ≤ l.length := by omega
  have hl2 : l.length ≤ n := by omega
  clear hl
  go_enter Try.func33, Try.ntmps33
  go_wp2
  go_loop [3, 4, 8] (fun x y i => ∃ k : Nat, k ≤ n ∧ i = .int .i64 k ∧ x = .int .u32 (adlerP (l.take k)).1 ∧ y = .int .u32 (adlerP (l.take k)).2) (fun _ _ i => n - (intOf i).toNat)
  case atStart => exact ⟨0, Nat.zero_le _, rfl, rfl, rfl⟩
  case round =>
    obtain ⟨k, hk, rfl, rfl, rfl⟩ := hrel
    by_cases hlt : k < n
    · have hs := adlerP_take l k (by omega)
      obtain ⟨h1, h2⟩ := adlerP_lt (l.take k)
      obtain ⟨b, o, rfl, hcell⟩ := HB.out k hlt
      have hx := (l.getD k 0).toNat_lt
      have HS := Lib.hid hs; clear hs
      generalize (adlerP (l.take k)) = p at *
      generalize l.getD k 0 = x at *
      unfold B at hcell
      go_wp2
      go_round
      case rel =>
        refine ⟨k + 1, by omega, by go_num, ?_, ?_⟩
        · rw [HS.out]; simp only [adlerStep]; go_num
        · rw [HS.out]; simp only [adlerStep]; go_num
      case measure => simp [intOf]; omega
    · obtain ⟨h1, h2⟩ := adlerP_lt (l.take k)
      have HA : Hid (adlerP (l.take k) = adlerP l) := by rw [List.take_of_length_le (by omega)]; exact rfl
      generalize (adlerP (l.take k)) = p at *
      go_wp2
      go_ret
      exact ⟨by rw [adler, ← HA.out]; go_num, rfl⟩

theorem u32_or8 {x y : Int} (h0 : 0 ≤ x) (h1 : x < 4294967296) (h2 : x % 256 = 0) (h3 : 0 ≤ y) (h4 : y < 256) : bits .or .u32 x y = x + y :=
  bits_join .u32 32 (by decide) (fun n a b => by rw [IntKind.wrap_u32]; omega) 8 x y h0 (by omega) (by omega) h3 (by omega) (by omega)

/-- Four bytes at an address. -/
theorem Bs.four {w : World} {a : Option Addr} {n c : Nat} {l : List UInt8} (h : Bs w a n c l) (h4 : 4 ≤ n) :
    ∃ b o, a = some ⟨b, o, none⟩ ∧ w.cell? ⟨b, o, none⟩ = some (.int .u8 (l.getD 0 0).toNat) ∧ w.cell? ⟨b, o + 1, none⟩ = some (.int .u8 (l.getD 1 0).toNat) ∧
      w.cell? ⟨b, o + 2, none⟩ = some (.int .u8 (l.getD 2 0).toNat) ∧ w.cell? ⟨b, o + 3, none⟩ = some (.int .u8 (l.getD 3 0).toNat) := by
  obtain ⟨b, o, rfl, h0⟩ := h.at (i := 0) (by omega)
  obtain ⟨b', o', e1, h1⟩ := h.at (i := 1) (by omega)
  obtain ⟨rfl, rfl⟩ : b = b' ∧ o = o' := by simpa using e1
  obtain ⟨b', o', e2, h2⟩ := h.at (i := 2) (by omega)
  obtain ⟨rfl, rfl⟩ : b = b' ∧ o = o' := by simpa using e2
  obtain ⟨b', o', e3, h3⟩ := h.at (i := 3) (by omega)
  obtain ⟨rfl, rfl⟩ : b = b' ∧ o = o' := by simpa using e3
  exact ⟨b, o, rfl, by simpa [B] using h0, by simpa [B] using h1, by simpa [B] using h2, by simpa [B] using h3⟩

theorem get_sum (y0 y1 y2 y3 : Int) (h0 : 0 ≤ y0) (h1 : 0 ≤ y1) (h2 : 0 ≤ y2) (h3 : 0 ≤ y3) (k0 : y0 < 256) (k1 : y1 < 256) (k2 : y2 < 256) (k3 : y3 < 256) :
    bits .or .u32 (bits .or .u32 (bits .or .u32 (bits .or .u32 0 y0 * 256 % 4294967296) y1 * 256 % 4294967296) y2 * 256 % 4294967296) y3 = ((y0 * 256 + y1) * 256 + y2) * 256 + y3 := by
  rw [u32_or8 (x := 0) (by omega) (by omega) (by omega) h0 k0, u32_or8 (y := y1) (by omega) (by omega) (by omega) h1 k1, u32_or8 (y := y2) (by omega) (by omega) (by omega) h2 k2, u32_or8 (y := y3) (by omega) (by omega) (by omega) h3 k3]
  omega

set_option maxHeartbeats 400000 in
theorem get_any (a : Option Addr) (n c : Nat) (l : List UInt8) (w : World) (hv : Bs w a n c l) (h4 : 4 ≤ n) :
    Calls Try.prog 34 #[.slice a n c] w fun e w' => e = .returned (.int .u32 (be4 l)) ∧ w = w' := by
  have hc := hv.le_cap
  have hm := hv.cap_le
  unfold maxLen at hm
  obtain ⟨b, o, rfl, h0, h1, h2, h3⟩ := hv.four h4
  clear hv
  unfold be4
  have x0 := (l.getD 0 0).toNat_lt
  have x1 := (l.getD 1 0).toNat_lt
  have x2 := (l.getD 2 0).toNat_lt
  have x3 := (l.getD 3 0).toNat_lt
  generalize l.getD 0 0 = y0 at *
  generalize l.getD 1 0 = y1 at *
  generalize l.getD 2 0 = y2 at *
  generalize l.getD 3 0 = y3 at *
  go_enter Try.func34, Try.ntmps34
  go_wp2
  refine wp_loop_rounds 5 ?_
  go_wp2_with (rw [rounds_succ])
  go_ret
  exact ⟨ret_int (by rw [get_sum _ _ _ _ (by omega) (by omega) (by omega) (by omega) (by omega) (by omega) (by omega) (by omega)]; omega), rfl⟩

set_option maxHeartbeats 400000 in
theorem number_any (a : Option Addr) (n c : Nat) (l : List UInt8) (w : World) (hv : Bs w a n c l) (h4 : 4 ≤ n) :
    Calls Try.prog 46 #[.slice a n c] w fun e w' => e = .returned (.int .i64 (be4 l)) ∧ ∃ k, w' = w.drewN k := by
  have hc := hv.le_cap
  have hm := hv.cap_le
  unfold maxLen at hm
  obtain ⟨b, o, rfl, h0, h1, h2, h3⟩ := hv.four h4
  clear hv
  unfold be4
  have x0 := (l.getD 0 0).toNat_lt
  have x1 := (l.getD 1 0).toNat_lt
  have x2 := (l.getD 2 0).toNat_lt
  have x3 := (l.getD 3 0).toNat_lt
  generalize l.getD 0 0 = y0 at *
  generalize l.getD 1 0 = y1 at *
  generalize l.getD 2 0 = y2 at *
  generalize l.getD 3 0 = y3 at *
  have k0 : (0 : Int) < n := by omega
  have k1 : (1 : Int) < n := by omega
  have k2 : (2 : Int) < n := by omega
  have k3 : (3 : Int) < n := by omega
  go_enter Try.func46, Try.ntmps46
  go_wp2
  go_quiet (fail)
  go_wp2
  go_ret
  exact ⟨ret_int (by omega), nq, rfl⟩

set_option maxHeartbeats 400000 in
theorem rchecksum_any (a : Option Addr) (n c : Nat) (l : List UInt8) (w : World) (hv : Bs w a n c l) :
    Calls Try.prog 47 #[.slice a n c] w fun e w' => e = .returned (.int .i64 (adler l)) ∧ w = w' := by
  have hc := hv.le_cap
  have hm := hv.cap_le
  have hl := hv.length
  have HB := Lib.hid (fun i (hi : i < n) => hv.at hi); clear hv
  unfold maxLen at hm
  have HL := Lib.hid hl
  have hl1 : n ≤ l.length := by omega
  have hl2 : l.length ≤ n := by omega
  clear hl
  go_enter Try.func47, Try.ntmps47
  go_wp2
  go_loop [3, 4, 9] (fun x y i => ∃ k : Nat, k ≤ n ∧ i = .int .i64 k ∧ x = .int .i64 (adlerP (l.take k)).1 ∧ y = .int .i64 (adlerP (l.take k)).2) (fun _ _ i => n - (intOf i).toNat)
  case atStart => exact ⟨0, Nat.zero_le _, rfl, rfl, rfl⟩
  case round =>
    obtain ⟨k, hk, rfl, rfl, rfl⟩ := hrel
    by_cases hlt : k < n
    · have hs := adlerP_take l k (by omega)
      obtain ⟨h1, h2⟩ := adlerP_lt (l.take k)
      obtain ⟨b, o, rfl, hcell⟩ := HB.out k hlt
      have hx := (l.getD k 0).toNat_lt
      have HS := Lib.hid hs; clear hs
      generalize (adlerP (l.take k)) = p at *
      generalize l.getD k 0 = x at *
      unfold B at hcell
      go_wp2
      go_round
      case rel =>
        refine ⟨k + 1, by omega, by go_num, ?_, ?_⟩
        · rw [HS.out]; simp only [adlerStep]; go_num
        · rw [HS.out]; simp only [adlerStep]; go_num
      case measure => simp [intOf]; omega
    · obtain ⟨h1, h2⟩ := adlerP_lt (l.take k)
      have HA : Hid (adlerP (l.take k) = adlerP l) := by rw [List.take_of_length_le (by omega)]; exact rfl
      generalize (adlerP (l.take k)) = p at *
      go_wp2
      go_ret
      exact ⟨by rw [adler, ← HA.out]; go_num, rfl⟩

theorem four_sets (cur : List Value) (o : Nat) (h : o + 4 ≤ cur.length) (v0 v1 v2 v3 : Value) :
    (((cur.set o v0).set (o + 1) v1).set (o + 2) v2).set (o + 3) v3 = splice cur o [v0, v1, v2, v3] := by
  obtain ⟨pre, post, rfl, rfl⟩ : ∃ pre post, cur = pre ++ post ∧ pre.length = o := ⟨cur.take o, cur.drop o, (List.take_append_drop _ _).symm, by simp; omega⟩
  match post, h with
  | x0 :: x1 :: x2 :: x3 :: post, _ =>
    simp [splice, List.set_append_right]
  | [], h => exact absurd h (by simp only [List.length_append, List.length_nil]; omega)
  | [_], h => exact absurd h (by simp only [List.length_append, List.length_cons, List.length_nil]; omega)
  | [_, _], h => exact absurd h (by simp only [List.length_append, List.length_cons, List.length_nil]; omega)
  | [_, _, _], h => exact absurd h (by simp only [List.length_append, List.length_cons, List.length_nil]; omega)

theorem four_setCells (w : World) (g o : Nat) (cur : List Value) (t : TypeId) (hg : w.heap[g]? = some (.cells cur.toArray t (0, 0))) (h : o + 4 ≤ cur.length) (v0 v1 v2 v3 : Value) :
    ((((w.setCell ⟨g, o, none⟩ v0).setCell ⟨g, o + 1, none⟩ v1).setCell ⟨g, o + 2, none⟩ v2).setCell ⟨g, o + 3, none⟩ v3).heap[g]? = some (.cells (splice cur o [v0, v1, v2, v3]).toArray t (0, 0)) ∧
    w.grownBy ((((w.setCell ⟨g, o, none⟩ v0).setCell ⟨g, o + 1, none⟩ v1).setCell ⟨g, o + 2, none⟩ v2).setCell ⟨g, o + 3, none⟩ v3) (some g) := by
  have h1 := heap_setCell_same w g o _ t v0 hg
  have h2 := heap_setCell_same _ g (o + 1) _ t v1 h1
  have h3 := heap_setCell_same _ g (o + 2) _ t v2 h2
  have h4 := heap_setCell_same _ g (o + 3) _ t v3 h3
  rw [← four_sets cur o h]
  simp only [List.setIfInBounds_toArray] at h4
  refine ⟨h4, ?_⟩
  have step : ∀ (u : World) (j : Nat) (v : Value), u.grownBy (u.setCell ⟨g, j, none⟩ v) (some g) := fun u j v =>
    ⟨rfl, rfl, rfl, by simp, fun k _ hk => heap_setCell_other u ⟨g, j, none⟩ k v (fun e => hk (by rw [e]))⟩
  have tr : ∀ {a b c : World}, a.grownBy b (some g) → b.grownBy c (some g) → a.grownBy c (some g) := fun {a b c} h k =>
    ⟨k.os.trans h.os, k.tape.trans h.tape, k.output.trans h.output, Nat.le_trans h.size k.size, fun i hi hne => (k.block i (Nat.lt_of_lt_of_le hi h.size) hne).trans (h.block i hi hne)⟩
  exact tr (tr (tr (step _ _ _) (step _ _ _)) (step _ _ _)) (step _ _ _)

set_option maxHeartbeats 400000 in
theorem put_any (g o n c m : Nat) (cur : List Value) (t : TypeId) (w : World) (hg : w.heap[g]? = some (.cells cur.toArray t (0, 0))) (h4 : o + 4 ≤ cur.length) (hn : 4 ≤ n) (hc : n ≤ maxLen) (hm : m < 4294967296) :
    Calls Try.prog 32 #[.slice (some ⟨g, o, none⟩) n c, .int .u32 m] w fun e w' => e = .returned (.tuple #[]) ∧ w'.heap[g]? = some (.cells (splice cur o ((be m).map B)).toArray t (0, 0)) ∧ w.grownBy w' (some g) := by
  unfold maxLen at hc
  have c0 : ∃ v, w.cell? ⟨g, o, none⟩ = some v := ⟨cur[o]'(by omega), by simp [World.cell?, hg]⟩
  have c1 : ∃ v, w.cell? ⟨g, o + 1, none⟩ = some v := ⟨cur[o + 1]'(by omega), by simp [World.cell?, hg]⟩
  have c2 : ∃ v, w.cell? ⟨g, o + 2, none⟩ = some v := ⟨cur[o + 2]'(by omega), by simp [World.cell?, hg]⟩
  have c3 : ∃ v, w.cell? ⟨g, o + 3, none⟩ = some v := ⟨cur[o + 3]'(by omega), by simp [World.cell?, hg]⟩
  have f : ∀ j, w.frozen? ⟨g, j, none⟩ = false := fun j => by simp [World.frozen?, hg]
  have f0 := f o
  have f1 := f (o + 1)
  have f2 := f (o + 2)
  have f3 := f (o + 3)
  clear f
  obtain ⟨x0, c0⟩ := c0
  obtain ⟨x1, c1⟩ := c1
  obtain ⟨x2, c2⟩ := c2
  obtain ⟨x3, c3⟩ := c3
  have H := Lib.hid (four_setCells w g o cur t hg h4)
  clear hg
  go_enter Try.func32, Try.ntmps32
  go_wp2
  refine wp_loop_rounds 5 ?_
  go_wp2_with (rw [rounds_succ])
  go_end0
  refine ⟨rfl, ?_⟩
  have e : (be m).map B = [.int .u8 (m / 16777216), .int .u8 (m / 65536 % 256), .int .u8 (m / 256 % 256), .int .u8 (m % 256)] := by
    simp [be, B]; omega
  rw [e]
  exact H.out _ _ _ _
end Go.Proofs.Ytelbapljkefjcaa
