/-
  A script: a slice of structs of two numbers and a slice of bytes: the words of the walks, and the way to them from what the form hands over.
-/
import Derived.Test.YtelbapljkefjcaaOpen
import Derived.Deep.Strs
namespace Go.Proofs.Ytelbapljkefjcaa
open Go.RowKit Go.ChangeShapes Go.WideShapes Go.Deep

structure St where
  kind : Int
  n : Int
  data : List UInt8
instance : Inhabited St := ⟨⟨0, 0, []⟩⟩

/-- One step at three cells. -/
def OneStep (w : World) (a : Option Addr) (i : Nat) (s : St) : Prop :=
  ∃ b o x m q, a = some ⟨b, o, none⟩ ∧ w.cell? ⟨b, o + i * 3, none⟩ = some (.int .i64 s.kind) ∧ w.cell? ⟨b, o + i * 3 + 1, none⟩ = some (.int .i64 s.n) ∧ w.cell? ⟨b, o + i * 3 + 2, none⟩ = some (.slice x m q) ∧
    Bs w x m q s.data ∧ (-9223372036854775808 ≤ s.kind ∧ s.kind ≤ 9223372036854775807) ∧ (-9223372036854775808 ≤ s.n ∧ s.n ≤ 9223372036854775807)

structure Steps (w : World) (a : Option Addr) (n c : Nat) (L : List St) : Prop where
  len : L.length = n
  le : n ≤ c
  cap : c ≤ maxLen
  nil : a = none → c = 0
  at_ : ∀ i s, L[i]? = some s → OneStep w a i s

theorem cell_lt {w : World} {b o : Nat} {v : Value} (h : w.cell? ⟨b, o, none⟩ = some v) : b < w.heap.size := by
  unfold World.cell? at h
  split at h
  · rename_i hh; exact (Array.getElem?_eq_some_iff.1 hh).1
  · cases h

theorem OneStep.below {w w' : World} {a : Option Addr} {i : Nat} {s : St} (h : OneStep w a i s) (hb : Below w.heap.size w w') : OneStep w' a i s := by
  obtain ⟨b, o, x, m, q, e, h0, h1, h2, h3, h4, h5⟩ := h
  have hlt : b < w.heap.size := cell_lt h0
  have hk : w'.heap[b]? = w.heap[b]? := hb.block b hlt
  exact ⟨b, o, x, m, q, e, (World.cell?_of_block (w := w) hk).trans h0, (World.cell?_of_block (w := w) hk).trans h1, (World.cell?_of_block (w := w) hk).trans h2, Sl.below h3 hb, h4, h5⟩
theorem Steps.below {w w' : World} {a : Option Addr} {n c : Nat} {L : List St} (h : Steps w a n c L) (hb : Below w.heap.size w w') : Steps w' a n c L :=
  ⟨h.len, h.le, h.cap, h.nil, fun i s hs => (h.at_ i s hs).below hb⟩

theorem choose_st {p : Nat → St → Prop} (n : Nat) (h : ∀ i, i < n → ∃ l, p i l) : ∃ L : List St, L.length = n ∧ ∀ i l, L[i]? = some l → p i l := by
  obtain ⟨f, hf⟩ := choose_lt h
  refine ⟨(List.range n).map f, by simp, fun i l hl => ?_⟩
  by_cases hi : i < n
  · simp [hi] at hl
    subst hl
    exact hf i hi
  · rw [List.getElem?_eq_none (by simp; omega)] at hl
    cases hl

theorem steps_of_read {H : Type} {enc : TypeId × Value → H} {P : Program} {w : World} {base : Nat} {held : Bool} {t e q bt it : TypeId} {f0 f1 f2 : Field} {fuel : Nat} {a : Option Addr} {n c : Nat} {x : DataW H × List MemPlace}
    (ht : P.underlying t = some (.slice e)) (he : P.underlying e = some (.struct #[f0, f1, f2])) (t0 : f0.type = it) (t1 : f1.type = it) (t2 : f2.type = q) (o0 : f0.offset = 0) (o1 : f1.offset = 1) (o2 : f2.offset = 2)
    (hi : P.underlying it = some (.int .i64)) (hq : P.underlying q = some (.slice bt)) (hb : P.underlying bt = some (.int .u8)) (ce : P.cellsOf e = 3) (ci : P.cellsOf it = 1) (cq : P.cellsOf q = 1) (cb : P.cellsOf bt = 1)
    (h : DataW.trod enc P w base (fun _ => true) held fuel t [.slice a n c] = some x) : ∃ L, Steps w a n c L := by
  rcases open_slice ht h with ⟨hcs, _⟩ | ⟨ad, len, cap, m, z, D, Pl, hcs, _, hl, hm, hmm, _, hx⟩
  · simp at hcs
    obtain ⟨rfl, rfl, rfl⟩ := hcs
    exact ⟨[], rfl, Nat.le_refl _, Nat.zero_le _, fun _ => rfl, fun i s hs => by simp at hs⟩
  · simp at hcs
    obtain ⟨rfl, rfl, rfl⟩ := hcs
    simp only [if_true] at hmm
    obtain ⟨L, hL, hp⟩ := choose_st (p := fun i s => OneStep w (some ad) i s) n fun i hin => by
      obtain ⟨cs', h1, h2⟩ := hx i (by omega)
      rw [ce] at h1
      obtain ⟨_, hlen, hcell⟩ := World.cells?_some h1
      obtain ⟨y0, y1, y2, k, _, _, g0, g1, g2⟩ := trod_struct3 he h2
      match cs', hlen with
      | [v0, v1, v2], _ =>
        rw [t0, o0, ci] at g0
        rw [t1, o1, ci] at g1
        rw [t2, o2, cq] at g2
        simp at g0 g1 g2
        obtain ⟨z0, e0, _, w0⟩ := DataW.trod_int hi g0
        obtain ⟨z1, e1, _, w1⟩ := DataW.trod_int hi g1
        simp at e0 e1
        subst e0; subst e1
        have e0 := hcell 0 (by omega)
        have e1 := hcell 1 (by omega)
        have e2 := hcell 2 (by omega)
        rw [add_add] at e0 e1 e2
        have hs : ad.spot = none := by
          obtain ⟨cs0, k1, _⟩ := hx 0 (by omega)
          rw [ce] at k1
          obtain ⟨_, hl0, kc⟩ := World.cells?_some k1
          obtain ⟨v, hv⟩ : ∃ v, w.cell? (ad.add 0) = some v := by
            have := kc 0 (by omega)
            rw [add_add] at this
            rw [List.getElem?_eq_getElem (by omega)] at this
            exact ⟨_, by simpa using this⟩
          simpa [Addr.add] using World.cell?_spot hv
        obtain ⟨b, o, sp⟩ := ad
        simp only at hs
        subst hs
        rw [Addr.add_lit] at e0 e1 e2
        obtain ⟨x, m', q', rfl⟩ : ∃ x m' q', v2 = .slice x m' q' := by
          rcases DataW.trod_slice hq g2 with ⟨h0, _⟩ | ⟨a', l', c', _, _, _, _, h0, _⟩
          · exact ⟨none, 0, 0, by simpa using h0⟩
          · exact ⟨_, _, _, by simpa using h0⟩
        obtain ⟨l, hbs⟩ := bs_of_read hq hb cb g2
        exact ⟨⟨z0, z1, l⟩, b, o, x, m', q', rfl, by simpa using e0, by simpa [Nat.add_assoc] using e1, by simpa [Nat.add_assoc] using e2, hbs, int_of_wf w0, int_of_wf w1⟩
    exact ⟨L, hL, hl, hm, by simp, hp⟩
end Go.Proofs.Ytelbapljkefjcaa
