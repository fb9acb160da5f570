/-
  Words that the walks of this seat share: slices that are read (Sl), bytes (B), slices that are owned, steps for append, make, copy and conversion over them. Nothing here speaks of the program.
-/
import Derived.Tactics
import Derived.Tactics2
import Derived.WalkKit
import Derived.WalkLawsBesides
import Derived.WalkSpells
import Derived.Laws.CopyOwn
import Derived.Laws.AppendOwnNone
import Derived.Lib.Hide
import Derived.StillTailTactics
import Derived.Deep.Draws
namespace Go.Proofs.Ytelbapljkefjcaa
open Go.RowKit

/-- A byte as a cell. -/
def B (x : UInt8) : Value := .int .u8 (x.toNat : Int)

/-- n elements of k cells each can be read behind the address: the cells vs. -/
def Sl (w : World) (k : Nat) (a : Option Addr) (n c : Nat) (vs : List Value) : Prop :=
  vs.length = n * k ∧ n ≤ c ∧ c ≤ maxLen ∧ (a = none → c = 0) ∧ ∀ i u, vs[i]? = some u → ∃ b o, a = some ⟨b, o, none⟩ ∧ w.cell? ⟨b, o + i, none⟩ = some u

namespace Sl
variable {w w' : World} {k : Nat} {a : Option Addr} {n c : Nat} {vs : List Value}
theorem len (h : Sl w k a n c vs) : vs.length = n * k := h.1
theorem le_cap (h : Sl w k a n c vs) : n ≤ c := h.2.1
theorem cap_le (h : Sl w k a n c vs) : c ≤ maxLen := h.2.2.1
theorem none_cap (h : Sl w k a n c vs) : a = none → c = 0 := h.2.2.2.1
theorem none_len (h : Sl w k a n c vs) (ha : a = none) : n = 0 := by have := h.none_cap ha; have := h.le_cap; omega
theorem cell (h : Sl w k a n c vs) {i : Nat} {u : Value} (hi : vs[i]? = some u) : ∃ b o, a = some ⟨b, o, none⟩ ∧ w.cell? ⟨b, o + i, none⟩ = some u := h.2.2.2.2 i u hi
theorem cellAt {ad : Addr} (h : Sl w k (some ad) n c vs) : ∀ j u, vs[j]? = some u → w.cell? (ad.add j) = some u := by
  intro j u hj
  obtain ⟨b, o, e, hc⟩ := h.cell hj
  obtain rfl := Option.some.inj e
  rw [Addr.add_lit]; exact hc
theorem pos (h : Sl w k a n c vs) (hn : 0 < n) : ∃ ad, a = some ad := by
  cases a with
  | none => have := h.none_len rfl; omega
  | some ad => exact ⟨ad, rfl⟩
theorem nil (w : World) (k : Nat) : Sl w k none 0 0 [] := ⟨by simp, Nat.le_refl _, by simp [maxLen], fun _ => rfl, fun i u h => by simp at h⟩
/-- What was there stays readable where its block is as it was. -/
theorem keep (h : Sl w k a n c vs) (hb : ∀ b o, a = some ⟨b, o, none⟩ → b < w.heap.size → w'.heap[b]? = w.heap[b]?) : Sl w' k a n c vs := by
  refine ⟨h.1, h.2.1, h.2.2.1, h.2.2.2.1, fun i u hi => ?_⟩
  obtain ⟨b, o, ha, hc⟩ := h.cell hi
  refine ⟨b, o, ha, ?_⟩
  rw [World.cell?_of_block (w := w) (hb b o ha (World.block_lt_of_cell? w _ hc))]
  exact hc
theorem one_new (w : World) (u : Value) (t : TypeId) : Sl (w.alloc (.cells #[u] t)) 1 (some ⟨w.heap.size, 0, none⟩) 1 1 [u] := by
  refine ⟨rfl, Nat.le_refl _, by simp [maxLen], by simp, fun i x hx => ⟨w.heap.size, 0, rfl, ?_⟩⟩
  match i with
  | 0 =>
    simp at hx; subst hx
    exact cell_of_row _ w.heap.size 0 #[u] t (0, 0) (heap_alloc_new w _)
  | i + 1 => simp at hx
theorem lt (h : Sl w k a n c vs) (hn : 0 < n) (hk : 0 < k) {y : Addr} (hy : a = some y) : y.block < w.heap.size := by
  have hl := h.len
  have hpos : 0 < vs.length := by rw [hl]; exact Nat.mul_pos hn hk
  obtain ⟨b, o, e, hc⟩ := h.cell (i := 0) (u := vs[0]) (by simp)
  rw [hy] at e
  obtain rfl := Option.some.inj e
  exact World.block_lt_of_cell? w _ hc
/-- What was there stays readable where, if there is an element at all, its block is as it was. -/
theorem moveTo (h : Sl w k a n c vs) (hb : 0 < n → ∀ y, a = some y → y.block < w.heap.size → w'.heap[y.block]? = w.heap[y.block]?) : Sl w' k a n c vs := by
  refine ⟨h.1, h.2.1, h.2.2.1, h.2.2.2.1, fun i u hi => ?_⟩
  obtain ⟨b, o, ha, hc⟩ := h.cell hi
  refine ⟨b, o, ha, ?_⟩
  have hn : 0 < n := by
    rcases Nat.eq_zero_or_pos n with e | e
    · have := h.len
      rw [e, Nat.zero_mul] at this
      rw [List.eq_nil_of_length_eq_zero this] at hi
      simp at hi
    · exact e
  have hlt : b < w.heap.size := World.block_lt_of_cell? w _ hc
  rw [World.cell?_of_block (w := w) (a := ⟨b, o + i, none⟩) (hb hn ⟨b, o, none⟩ ha hlt)]
  exact hc
theorem below (h : Sl w k a n c vs) (hb : Below w.heap.size w w') : Sl w' k a n c vs := h.keep fun b _ _ hlt => hb.block b hlt
theorem grown {row : Option Nat} (h : Sl w k a n c vs) (hb : w.grownBy w' row) (hr : ∀ b o, a = some ⟨b, o, none⟩ → some b ≠ row) : Sl w' k a n c vs :=
  h.keep fun b o ha hlt => hb.block b hlt (hr b o ha)
theorem drew (h : Sl w k a n c vs) : Sl w.drew k a n c vs := h
/-- The address that a cut from lo on stands at (Go does not point behind an array's end). -/
theorem cut (h : Sl w k a n c vs) {lo hi : Nat} (h1 : lo ≤ hi) (h2 : hi ≤ n) {a' : Option Addr} (ha' : ∀ b o, a = some ⟨b, o, none⟩ → lo < c → a' = some ⟨b, o + lo * k, none⟩) (hn : a' = none → a = none) :
    Sl w k a' (hi - lo) (c - lo) ((vs.drop (lo * k)).take ((hi - lo) * k)) := by
  have hl := h.len
  have hc := h.le_cap
  refine ⟨?_, by omega, by have := h.cap_le; omega, fun e => by have := h.none_cap (hn e); omega, fun i u hi' => ?_⟩
  · rw [List.length_take, List.length_drop, hl, ← Nat.sub_mul]
    exact Nat.min_eq_left (Nat.mul_le_mul_right _ (by omega))
  · rw [List.getElem?_take] at hi'
    split at hi'
    · rename_i hlt
      rw [List.getElem?_drop] at hi'
      obtain ⟨b, o, ha, hcell⟩ := h.cell hi'
      have : lo < c := by
        rcases Nat.lt_or_ge lo c with h' | h'
        · exact h'
        · have : hi - lo = 0 := by omega
          rw [this] at hlt; simp at hlt
      exact ⟨b, o + lo * k, ha' b o ha this, by rw [Nat.add_assoc]; exact hcell⟩
    · cases hi'
end Sl

/-- Bytes that can be read. -/
abbrev Bs (w : World) (a : Option Addr) (n c : Nat) (l : List UInt8) : Prop := Sl w 1 a n c (l.map B)

theorem Bs.length {w : World} {a : Option Addr} {n c : Nat} {l : List UInt8} (h : Bs w a n c l) : l.length = n := by simpa using h.len
theorem Bs.at {w : World} {a : Option Addr} {n c : Nat} {l : List UInt8} (h : Bs w a n c l) {i : Nat} (hi : i < n) : ∃ b o, a = some ⟨b, o, none⟩ ∧ w.cell? ⟨b, o + i, none⟩ = some (B (l.getD i 0)) :=
  Sl.cell h (by have := h.length; simp [List.getD, show i < l.length by omega])
theorem Bs.cutFrom {w : World} {a : Option Addr} {n c k : Nat} {l : List UInt8} (h : Sl w 1 a n c ((l.map B).drop (k * 1))) : Bs w a n c (l.drop k) := by
  unfold Bs
  rw [List.map_drop]
  simpa using h
theorem Bs.cut {w : World} {a : Option Addr} {n c : Nat} {l : List UInt8} (h : Bs w a n c l) {lo hi : Nat} (h1 : lo ≤ hi) (h2 : hi ≤ n) {a' : Option Addr} (ha' : ∀ b o, a = some ⟨b, o, none⟩ → lo < c → a' = some ⟨b, o + lo, none⟩) (hn : a' = none → a = none) :
    Bs w a' (hi - lo) (c - lo) ((l.drop lo).take (hi - lo)) := by
  have := Sl.cut h h1 h2 (a' := a') (by simpa using ha') hn
  unfold Bs
  rw [List.map_take, List.map_drop]
  simpa using this

/-- What a cut yields as an address. -/
def cutAt (a : Option Addr) (c lo k : Nat) : Option Addr := if c = lo then a else a.map fun x => x.add (lo * k)

theorem oneCell_B (l : List UInt8) : ∀ u ∈ l.map B, u.oneCell' = true := by
  intro u hu
  obtain ⟨x, _, rfl⟩ := List.mem_map.1 hu
  rfl

/-- What is owned can be read. -/
theorem ownsRow_sl {w : World} {base : Nat} {e : TypeId} {k : Nat} {v : Value} {n : Nat} {xs : List Value} (h : w.ownsRow base e k v n xs) :
    ∃ a c, v = .slice a n c ∧ Sl w k a n c xs ∧ ∀ b, v.ownBlock = some b ↔ ∃ o, a = some ⟨b, o, none⟩ := by
  have hc := fun g hg => h.cells (g := g) hg
  obtain ⟨h1, h2⟩ := h
  rcases h2 with ⟨rfl, rfl⟩ | ⟨g, cap, cur, rfl, hb, hg, hnc, hcm, hs, ht⟩
  · have : xs = [] := List.eq_nil_of_length_eq_zero (by simpa using h1)
    subst this
    exact ⟨none, 0, rfl, Sl.nil w k, by simp [Value.ownBlock]⟩
  · refine ⟨some ⟨g, 0, none⟩, cap, rfl, ⟨h1, hnc, hcm, by simp, fun i u hi => ⟨g, 0, rfl, ?_⟩⟩, by simp [Value.ownBlock]⟩
    have := hc g rfl i u hi
    rwa [Addr.add_lit] at this

/-- What is owned stays owned where its block is as it was. -/
theorem ownsRow_keep {w w' : World} {base : Nat} {e : TypeId} {k : Nat} {v : Value} {n : Nat} {xs : List Value} (h : w.ownsRow base e k v n xs)
    (hb : ∀ b, v.ownBlock = some b → b < w.heap.size → w'.heap[b]? = w.heap[b]?) : w'.ownsRow base e k v n xs := by
  refine ⟨h.1, ?_⟩
  rcases h.2 with hn | ⟨g, cap, cur, rfl, hbg, hg, rest⟩
  · exact .inl hn
  · refine .inr ⟨g, cap, cur, rfl, hbg, ?_, rest⟩
    rw [hb g rfl (Array.getElem?_eq_some_iff.1 hg).1]
    exact hg
theorem ownsRow_below {w w' : World} {base : Nat} {e : TypeId} {k : Nat} {v : Value} {n : Nat} {xs : List Value} (h : w.ownsRow base e k v n xs) (hb : Below w.heap.size w w') : w'.ownsRow base e k v n xs :=
  ownsRow_keep h fun b _ hlt => hb.block b hlt
theorem ownsRow_base {w : World} {base base' : Nat} {e : TypeId} {k : Nat} {v : Value} {n : Nat} {xs : List Value} (h : w.ownsRow base e k v n xs) (hb : base' ≤ base) : w.ownsRow base' e k v n xs := by
  refine ⟨h.1, ?_⟩
  rcases h.2 with hn | ⟨g, cap, cur, rfl, hbg, rest⟩
  · exact .inl hn
  · exact .inr ⟨g, cap, cur, rfl, Nat.le_trans hb hbg, rest⟩

/-- A region that draws its order, all of whose operations but a tail in one forced order only read. -/
theorem wp_region_tail {P : Program} {id : Nat} {Q : Exit → Act → World → Prop} {a : Act} {w : World} {l : List Oper} (n : Nat) (hm : P.follows .mixedOrders = true) (hB : Region.lexTailB .any l.toArray n = true)
    (h : wpStill P l.toArray (w.drewN 1) (fun a' => wpList P l.toArray Q (l.drop n) a' (w.drewN 1)) (l.take n) a) : (Code.region id l.toArray true).wp P Q a w :=
  wp_region_still_tail n hm hB h

section
variable {P : Program}
/-- Where an append onto an owned slice leaves its value: at the head of the row that it had, or of a new one. -/
theorem append_block (w : World) (base : Nat) (t ty e : TypeId) (i : TypeInfo) (z : Value) (size bytes : Nat) (ht : P.underlying t = some (.slice e)) (hi : P.info? e = some i) (hz : i.zero = some z)
    (hsize : i.size = size) (hby : i.bytes = bytes)
    (v : Value) (n : Nat) (xs : List Value) (hown : w.ownsRow base e size v n xs)
    (ad : Addr) (m c : Nat) (news : List Value) (hl : news.length = m * size) (hnews : ∀ j u, news[j]? = some u → w.cell? (ad.add j) = some u) (h1 : ∀ u ∈ news, u.oneCell' = true)
    (h63 : n + m ≤ maxLen) (hbytes : (n + m) * bytes ≤ 140737488355328) {v' : Value} {w' : World} (hrun : (Builtin.append_ #[t, t] ty #[v, .slice (some ad) m c]).run P w = .ok v' w') (hm0 : 0 < m) :
    v'.ownBlock = v.ownBlock ∨ v'.ownBlock = some w.heap.size := by
  subst hsize; subst hby
  have hsmall : n + m ≤ 9223372036854775807 := by simp only [maxLen] at h63; omega
  have hc := fun g hg => hown.cells (g := g) hg
  obtain ⟨hlen, h2⟩ := hown
  rcases h2 with ⟨rfl, rfl⟩ | ⟨g, cap, cur, rfl, _, hg, hnc, _, hcs, htake⟩
  · rw [run_append_nil (P := P) w t ty e i z ht hi hz ad m c news hl hnews hm0 (by omega) (by have hb := hbytes; simp only [Nat.zero_add] at hb; omega)] at hrun
    obtain ⟨rfl, _⟩ := Result.ok.inj hrun
    exact .inr rfl
  · by_cases hroom : n + m ≤ cap
    · rw [run_append_room (P := P) w t ty e i ht hi g n cap cur hg ad m c news hl hnews h1 hroom (by rw [hl, hcs, ← Nat.add_mul]; exact Nat.mul_le_mul_right _ hroom)] at hrun
      obtain ⟨rfl, _⟩ := Result.ok.inj hrun
      exact .inl rfl
    · rw [run_append_grow (P := P) w t ty e i z ht hi hz ⟨g, 0, none⟩ n cap xs hlen (hc g rfl) ad m c news hl hnews (by omega) (by omega) (growslice_fits (by omega) hbytes)] at hrun
      obtain ⟨rfl, _⟩ := Result.ok.inj hrun
      exact .inr rfl

/-- append onto an owned slice, whatever readable slice is appended: as an equation. -/
theorem run_append_sl (w : World) (base : Nat) (t ty e : TypeId) (i : TypeInfo) (z : Value) (size bytes : Nat) (ht : P.underlying t = some (.slice e)) (hi : P.info? e = some i) (hz : i.zero = some z)
    (hsize : i.size = size) (hby : i.bytes = bytes) (hzs : z.cells.size = size) (hsz : 0 < size)
    (v : Value) (n : Nat) (xs : List Value) (hown : w.ownsRow base e size v n xs)
    (ad : Option Addr) (m c : Nat) (news : List Value) (hsl : Sl w size ad m c news) (h1 : ∀ u ∈ news, u.oneCell' = true)
    (h63 : n + m ≤ maxLen) (hbytes : (n + m) * bytes ≤ 140737488355328) (hbase : base ≤ w.heap.size) :
    ∃ v' w', (Builtin.append_ #[t, t] ty #[v, .slice ad m c]).run P w = .ok v' w' ∧ w'.ownsRow base e size v' (n + m) (xs ++ news) ∧ w.grownBy w' v.ownBlock ∧
      (v'.ownBlock = v.ownBlock ∨ v'.ownBlock = some w.heap.size) := by
  cases ad with
  | none =>
    have hm := hsl.none_len rfl
    have hc := hsl.none_cap rfl
    subst hm; subst hc
    have hnews : news = [] := List.eq_nil_of_length_eq_zero (by simpa using hsl.len)
    subst hnews
    exact ⟨v, w, run_append_owned_none (P := P) (w := w) base t ty e i size ht hi v n xs hown, by simpa using hown, World.grownBy.refl _ _, .inl rfl⟩
  | some ad =>
    obtain ⟨v', w', h, h2, h3, _⟩ := run_append_own (P := P) w base t ty e i z size bytes ht hi hz hsize hby hzs hsz v n xs hown ad m c news hsl.len hsl.cellAt h1 h63 hbytes hbase
    refine ⟨v', w', h, h2, h3, ?_⟩
    by_cases hm : 0 < m
    · exact append_block (P := P) w base t ty e i z size bytes ht hi hz hsize hby v n xs hown ad m c news hsl.len hsl.cellAt h1 h63 hbytes h hm
    · have hm0 : m = 0 := by omega
      subst hm0
      have hnews : news = [] := List.eq_nil_of_length_eq_zero (by simpa using hsl.len)
      subst hnews
      left
      have : (Builtin.append_ #[t, t] ty #[v, .slice (some ad) 0 c]).run P w = .ok v w := by
        rcases hown.2 with ⟨rfl, rfl⟩ | ⟨g, cap, cur, rfl, _, hg, hnc, _, _, _⟩
        · simp [Builtin.append_, run_underlying ht, sizeOf, typeInfo, hi, Builtin.lenOf, Builtin.firstCells, loadCells, loadCellsFrom]
        · simp [Builtin.append_, run_underlying ht, sizeOf, typeInfo, hi, Builtin.lenOf, Builtin.firstCells, hnc, storeCells, loadCells, loadCellsFrom]
      rw [this] at h
      obtain ⟨rfl, _⟩ := Result.ok.inj h
      rfl

theorem wpList_append_sl {w : World} {ops : Array Oper} {rest : List Oper} {o : Oper} {a : Act} {Q : Exit → Act → World → Prop} (hgd : o.guard = none) (s x : Operand) (t : TypeId)
    (ho : o.op = .call { callee := .builtin .append, args := #[s, x], argTypes := #[t, t] })
    (base : Nat) (e : TypeId) (z : Value) (size bytes : Nat) (ht : P.underlying t = some (.slice e)) (hinfo : (P.info? e).map (fun i => (i.zero, i.size, i.bytes)) = some (some z, size, bytes))
    (hzs : z.cells.size = size) (hsz : 0 < size)
    (v : Value) (n : Nat) (xs : List Value) (hs : a.eval s = v) (hown : w.ownsRow base e size v n xs)
    (ad : Option Addr) (m c : Nat) (news : List Value) (hx : a.eval x = .slice ad m c) (hsl : Sl w size ad m c news) (h1 : ∀ u ∈ news, u.oneCell' = true)
    (h63 : n + m ≤ maxLen) (hbytes : (n + m) * bytes ≤ 140737488355328) (hbase : base ≤ w.heap.size)
    (h : ∀ v' w', w'.ownsRow base e size v' (n + m) (xs ++ news) → w.grownBy w' v.ownBlock → (v'.ownBlock = v.ownBlock ∨ v'.ownBlock = some w.heap.size) → wpList P ops Q rest (a.put o.dst v') w') : wpList P ops Q (o :: rest) a w := by
  obtain ⟨i, hi, hz, hsize, hby⟩ := info_parts hinfo
  refine wpList_plain hgd fun K hK => ?_
  obtain ⟨v', w', hr, h2, h3, h4⟩ := run_append_sl (P := P) w base t o.type e i z size bytes ht hi hz hsize hby hzs hsz v n xs hown ad m c news hsl h1 h63 hbytes hbase
  unfold Oper.wp
  simp [execOp, ho, resolve, invoke, builtin, hs, hx, hr, Result.andThen]
  exact hK _ _ (h v' w' h2 h3 h4)

/-- make([]T, n), each element one cell. -/
theorem wpList_make_row {w : World} {ops : Array Oper} {rest : List Oper} {o : Oper} {a : Act} {Q : Exit → Act → World → Prop}
    (hg : o.guard = none) (l c : Operand) (t : TypeId) (hop : o.op = Op.makeSlice t l c)
    (e : TypeId) (z : Value) (bytes : Nat) (h1 : P.underlying t = some (.slice e)) (hinfo : (P.info? e).map (fun i => (i.zero, i.size, i.bytes)) = some (some z, 1, bytes)) (hz : z.cells = #[z])
    (kl kc : IntKind) (L C : Int) (n : Nat) (hl : a.eval l = .int kl L) (hc : a.eval c = .int kc C) (hL : L = (n : Int)) (hC : C = (n : Int)) (b2 : bytes * n ≤ 281474976710656) (b3 : n ≤ maxLen)
    (hK : ∀ w', w'.heap[w.heap.size]? = some (.cells (List.replicate n z).toArray e (0, 0)) → w.grownBy w' none → w.heap.size < w'.heap.size → wpList P ops Q rest (a.put o.dst (.slice (some ⟨w.heap.size, 0, none⟩) n n)) w') :
    wpList P ops Q (o :: rest) a w := by
  obtain ⟨i, hi, hz0, hsize, hby⟩ := info_parts hinfo
  refine wpList_make_full w hg l c t hop 0 e i z 1 h1 hi hz0 hsize kl kc L C n hl hc hL hC (by rw [hby]; exact b2) b3 (Nat.zero_le _) fun w' hown hgr => ?_
  have hheap : w'.heap[w.heap.size]? = some (.cells (List.replicate n z).toArray e (0, 0)) := by
    rcases hown.2 with ⟨h, _⟩ | ⟨g, cap, cur, h, _, hg, _, _, hs, ht⟩
    · simp at h
    · simp only [Value.slice.injEq, Option.some.injEq, Addr.mk.injEq, and_true, true_and] at h
      obtain ⟨rfl, rfl⟩ := h
      rw [hg]
      have hl : cur.toList.take (n * 1) = cur.toList := List.take_of_length_le (by rw [Array.length_toList, hs]; exact Nat.le_refl _)
      rw [hl, hz, Nat.mul_one, toList_madeCells_one] at ht
      rw [← ht]
  exact hK w' hheap hgr (Array.getElem?_eq_some_iff.1 hheap).1

/-- A row known whole is owned. -/
theorem ownsRow_of_heap {w : World} {base g : Nat} {e : TypeId} {xs : List Value} (hb : base ≤ g) (hg : w.heap[g]? = some (.cells xs.toArray e (0, 0))) (hm : xs.length ≤ maxLen) :
    w.ownsRow base e 1 (.slice (some ⟨g, 0, none⟩) xs.length xs.length) xs.length xs :=
  ⟨by simp, .inr ⟨g, xs.length, xs.toArray, rfl, hb, hg, Nat.le_refl _, hm, by simp, by simp⟩⟩

/-- The same, the value written out. -/
theorem wpList_append_to {w : World} {ops : Array Oper} {rest : List Oper} {o : Oper} {a : Act} {Q : Exit → Act → World → Prop} (hgd : o.guard = none) (s x : Operand) (t : TypeId)
    (ho : o.op = .call { callee := .builtin .append, args := #[s, x], argTypes := #[t, t] })
    (base : Nat) (e : TypeId) (z : Value) (size bytes : Nat) (ht : P.underlying t = some (.slice e)) (hinfo : (P.info? e).map (fun i => (i.zero, i.size, i.bytes)) = some (some z, size, bytes))
    (hzs : z.cells.size = size) (hsz : 0 < size)
    (v : Value) (n : Nat) (xs : List Value) (hs : a.eval s = v) (hown : w.ownsRow base e size v n xs)
    (ad : Option Addr) (m c : Nat) (news : List Value) (hx : a.eval x = .slice ad m c) (hsl : Sl w size ad m c news) (h1 : ∀ u ∈ news, u.oneCell' = true)
    (h63 : n + m ≤ maxLen) (hbytes : (n + m) * bytes ≤ 140737488355328) (hbase : base ≤ w.heap.size)
    (N : Nat) (hN : N = n + m) (X : List Value) (hX : X = xs ++ news)
    (h : ∀ a' c' w', w'.ownsRow base e size (.slice a' N c') N X → w.grownBy w' v.ownBlock → ((Value.slice a' N c').ownBlock = v.ownBlock ∨ (Value.slice a' N c').ownBlock = some w.heap.size) → wpList P ops Q rest (a.put o.dst (.slice a' N c')) w') : wpList P ops Q (o :: rest) a w := by
  subst hN; subst hX
  refine wpList_append_sl hgd s x t ho base e z size bytes ht hinfo hzs hsz v n xs hs hown ad m c news hx hsl h1 h63 hbytes hbase fun v' w' h2 h3 h4 => ?_
  obtain ⟨a', c', rfl, _, _⟩ := ownsRow_sl h2
  exact h a' c' w' h2 h3 h4

theorem eq_cutAt (a : Option Addr) (m l s : Nat) : (if m = l then a else a.map (·.add (l * s))) = cutAt a m l s := rfl

/-- x[lo:], the address under a name. -/
theorem wpList_cut_lo {w : World} {ops : Array Oper} {rest : List Oper} {o : Oper} {a : Act} {Q : Exit → Act → World → Prop}
    (hg : o.guard = none) (x lo : Operand) (t : TypeId) (hop : o.op = Op.slice t x (some lo) none none) (e : TypeId) (z : Value) (k bytes : Nat) (h1 : P.underlying t = some (.slice (P.elem t))) (he : P.elem t = e)
    (hinfo : (P.info? e).map (fun i => (i.zero, i.size, i.bytes)) = some (some z, k, bytes)) (ad : Option Addr) (n c : Nat) (hx : a.eval x = .slice ad n c) (kl : IntKind) (L : Int) (i : Nat) (hlo : a.eval lo = .int kl L) (hL : L = (i : Int)) (hi : i ≤ n)
    (vs : List Value) (hS : Sl w k ad n c vs)
    (hK : ∀ a' n' c', n' + i ≤ n → n ≤ n' + i → c' + i ≤ c → Sl w k a' n' c' (vs.drop (i * k)) → (∀ y', a' = some y' → ∃ y, ad = some y ∧ y.block = y'.block) → wpList P ops Q rest (a.put o.dst (.slice a' n' c')) w) :
    wpList P ops Q (o :: rest) a w := by
  obtain ⟨inf, hi', _, hsize, _⟩ := info_parts hinfo
  refine wpList_plain hg fun K hKK => ?_
  subst hL
  have hc := hS.le_cap
  have hr := run_slice_l (P := P) (w := w) t ad n c h1 kl (i : Int) (by omega) (by omega)
  have hsz : (sizeOf (P.elem t)).run P w = .ok k w := by rw [he]; simp [sizeOf, typeInfo, hi', hsize]
  unfold Oper.wp
  simp [execOp, hop, hx, hlo, Instr.sliceAt, run_underlying h1, hr, hsz, Result.andThen, sliced]
  rw [show (if c = i then ad else ad.map (fun y => y.add (i * k))) = cutAt ad c i k from rfl]
  have hcut := hS.cut (lo := i) (hi := n) hi (Nat.le_refl _) (a' := cutAt ad c i k) (fun b o hb hlt => by
    subst hb
    unfold cutAt
    rw [if_neg (by omega)]
    simp [Addr.add_lit]) (fun h => by
    unfold cutAt at h
    split at h
    · exact h
    · cases ad with
      | none => rfl
      | some y => simp at h)
  have hlen := hS.len
  rw [List.take_of_length_le (by rw [List.length_drop, hlen, ← Nat.sub_mul]; exact Nat.le_refl _)] at hcut
  refine hKK _ _ (hK _ _ _ (by omega) (by omega) (by omega) hcut fun y' h => ?_)
  unfold cutAt at h
  split at h
  · exact ⟨y', h, rfl⟩
  · cases ad with
    | none => simp at h
    | some y =>
      simp only [Option.map_some, Option.some.injEq] at h
      refine ⟨y, rfl, ?_⟩
      rw [← h]
      unfold Addr.add
      split <;> rfl

/-- A list of byte slices, each in a block of which F holds. -/
def RL (w : World) (vs : List Value) (L : List (List UInt8)) (F : Nat → Prop) : Prop :=
  vs.length = L.length ∧ ∀ (i : Nat) (l : List UInt8), L[i]? = some l → ∃ a n c, vs[i]? = some (Value.slice a n c) ∧ Bs w a n c l ∧ ∀ y, a = some y → F y.block

theorem RL.nil (w : World) (F : Nat → Prop) : RL w [] [] F := ⟨rfl, fun i l h => by simp at h⟩
theorem RL.mono {w : World} {vs : List Value} {L : List (List UInt8)} {F G : Nat → Prop} (h : RL w vs L F) (hFG : ∀ b, F b → G b) : RL w vs L G :=
  ⟨h.1, fun i l hl => let ⟨a, n, c, h1, h2, h3⟩ := h.2 i l hl; ⟨a, n, c, h1, h2, fun y hy => hFG _ (h3 y hy)⟩⟩
theorem RL.keep {w w' : World} {vs : List Value} {L : List (List UInt8)} {F : Nat → Prop} (h : RL w vs L F) (hb : ∀ b, F b → b < w.heap.size → w'.heap[b]? = w.heap[b]?) : RL w' vs L F :=
  ⟨h.1, fun i l hl => let ⟨a, n, c, h1, h2, h3⟩ := h.2 i l hl; ⟨a, n, c, h1, h2.keep fun b _ ha hlt => hb b (h3 _ ha) hlt, h3⟩⟩
theorem RL.snoc {w : World} {vs : List Value} {L : List (List UInt8)} {F : Nat → Prop} (h : RL w vs L F) {a : Option Addr} {n c : Nat} {l : List UInt8} (hl : Bs w a n c l) (hF : ∀ y, a = some y → F y.block) :
    RL w (vs ++ [Value.slice a n c]) (L ++ [l]) F := by
  refine ⟨by simp [h.1], fun i x hx => ?_⟩
  by_cases hi : i < L.length
  · rw [List.getElem?_append_left hi] at hx
    obtain ⟨a', n', c', h1, h2⟩ := h.2 i x hx
    exact ⟨a', n', c', by rw [List.getElem?_append_left (by rw [h.1]; exact hi)]; exact h1, h2⟩
  · rw [List.getElem?_append_right (by omega)] at hx
    have : i - L.length = 0 := by
      rcases Nat.eq_zero_or_pos (i - L.length) with h0 | h0
      · exact h0
      · rw [List.getElem?_eq_none (by simp; omega)] at hx; cases hx
    rw [this] at hx
    simp at hx
    subst hx
    exact ⟨a, n, c, by rw [List.getElem?_append_right (by rw [h.1]; omega), h.1, this]; rfl, hl, hF⟩

/-- string(b). -/
theorem run_conv_bs (w : World) (src dst e : TypeId) (hs : P.underlying src = some (.slice e)) (he : P.underlying e = some (.int .u8)) (hd : P.underlying dst = some .string)
    (ad : Option Addr) (n c : Nat) (l : List UInt8) (h : Bs w ad n c l) : (convert src dst (.slice ad n c)).run P w = .ok (.string ⟨l.toArray⟩) w := by
  cases ad with
  | none =>
    have hn := h.none_len rfl
    subst hn
    have hl : l = [] := List.eq_nil_of_length_eq_zero h.length
    subst hl
    exact run_convert_bytes_nil w src e hs he 0 c dst hd
  | some ad =>
    by_cases h0 : n = 0
    · subst h0
      have hl : l = [] := List.eq_nil_of_length_eq_zero h.length
      subst hl
      have := run_convert_bytes_string w src dst e (some ad) 0 c hs he hd
      rw [this]
      rfl
    · obtain ⟨b, o, ha, _⟩ := h.at (i := 0) (by omega)
      obtain rfl := Option.some.inj ha
      have hl := h.length
      have := run_convert_bytes_arg (P := P) w src e hs he b o n c (l.map fun x => (x.toNat : Int)) (by simpa using hl) (fun i hi => by
        obtain ⟨b', o', ha', hc⟩ := h.at hi
        obtain ⟨rfl, rfl⟩ : b = b' ∧ o = o' := by simpa using ha'
        rw [hc]
        simp [B, List.getD, show i < l.length by omega]) dst hd
      rw [this]
      congr 2
      simp only [strOfNums, List.map_map]
      congr 2
      conv => rhs; rw [← List.map_id l]
      refine List.map_congr_left fun x _ => ?_
      simp
end
end Go.Proofs.Ytelbapljkefjcaa
