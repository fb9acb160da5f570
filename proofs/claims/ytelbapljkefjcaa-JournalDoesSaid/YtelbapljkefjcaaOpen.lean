/-
  From what the form hands over (slices of numbers, slices of slices of numbers) to the words of the walks.
-/
import Derived.Test.YtelbapljkefjcaaSame
import Derived.Deep.Matrix
namespace Go.Proofs.Ytelbapljkefjcaa
open Go.RowKit Go.ChangeShapes Go.WideShapes

theorem byte_of_wf {x : Int} (h : (Lit.int .u8 x).wf = true) : 0 ≤ x ∧ x < 256 := by
  simp [Lit.wf, IntKind.min, IntKind.max, IntKind.signed, IntKind.bits] at h
  omega
theorem int_of_wf {x : Int} (h : (Lit.int .i64 x).wf = true) : -9223372036854775808 ≤ x ∧ x ≤ 9223372036854775807 := by
  simp [Lit.wf, IntKind.min, IntKind.max, IntKind.signed, IntKind.bits] at h
  omega

theorem bs_of_row {w : World} {ad : Addr} {len cap : Nat} {zs : List Int} (hl : len ≤ cap) (hm : cap ≤ maxLen) (hz : zs.length = cap)
    (hcell : ∀ i, i < cap → w.cell? (ad.add i) = some (.int .u8 (zs.getD i 0))) (hw : ∀ n ∈ zs, (Lit.int .u8 n).wf = true) : ∃ l, Bs w (some ad) len cap l := by
  refine ⟨(zs.take len).map fun n => UInt8.ofNat n.toNat, ?_, hl, hm, by simp, fun i u hi => ?_⟩
  · simp; omega
  · have hlt : i < len := by
      have := (List.getElem?_eq_some_iff.1 hi).1
      simp at this; omega
    have hc := hcell i (by omega)
    obtain ⟨b, o, s⟩ := ad
    have hs : s = none := by
      by_cases h0 : i = 0
      · subst h0
        simpa [Addr.add] using World.cell?_spot hc
      · cases s with
        | none => rfl
        | some q =>
          have hc0 := hcell 0 (by omega)
          simpa [Addr.add] using World.cell?_spot hc0
    subst hs
    refine ⟨b, o, rfl, ?_⟩
    rw [Addr.add_lit] at hc
    rw [hc]
    have hlz : i < zs.length := by omega
    obtain ⟨h0, h1⟩ := byte_of_wf (hw (zs[i]) (List.getElem_mem hlz))
    have hu : u = B (UInt8.ofNat zs[i].toNat) := by
      simp [hlt, hlz] at hi
      exact hi.symm
    rw [hu]
    simp [B, List.getD, hlz]
    omega

theorem bs_of_read {H : Type} {enc : TypeId × Value → H} {P : Program} {w : World} {base : Nat} {held : Bool} {t e : TypeId} {fuel : Nat} {a : Option Addr} {n c : Nat} {x : DataW H × List MemPlace}
    (ht : P.underlying t = some (.slice e)) (he : P.underlying e = some (.int .u8)) (ce : P.cellsOf e = 1) (h : DataW.trod enc P w base (fun _ => true) held fuel t [.slice a n c] = some x) : ∃ l, Bs w a n c l := by
  rcases open_ints ht he ce h with ⟨hcs, _⟩ | ⟨ad, l, c', zs, hcs, _, hl, hm, hz, _, hcell, hwz⟩
  · simp at hcs
    obtain ⟨rfl, rfl, rfl⟩ := hcs
    exact ⟨[], Sl.nil w 1⟩
  · simp at hcs
    obtain ⟨rfl, rfl, rfl⟩ := hcs
    simp only [if_true] at hz
    exact bs_of_row hl hm hz (fun i hi => hcell i (by omega)) hwz

theorem choose_list {p : Nat → List UInt8 → Prop} (n : Nat) (h : ∀ i, i < n → ∃ l, p i l) : ∃ L : List (List UInt8), L.length = n ∧ ∀ i l, L[i]? = some l → p i l := by
  induction n with
  | zero => exact ⟨[], rfl, by simp⟩
  | succ n ih =>
    obtain ⟨L, hL, hp⟩ := ih fun i hi => h i (by omega)
    obtain ⟨l, hl⟩ := h n (by omega)
    refine ⟨L ++ [l], by simp [hL], fun i x hx => ?_⟩
    by_cases hi : i < n
    · rw [List.getElem?_append_left (by omega)] at hx
      exact hp i x hx
    · rw [List.getElem?_append_right (by omega)] at hx
      have h0 : i - L.length = 0 := by
        rcases Nat.eq_zero_or_pos (i - L.length) with h | h
        · exact h
        · rw [List.getElem?_eq_none (by simp; omega)] at hx; cases hx
      have : i = n := by omega
      subst this
      rw [h0] at hx
      simp at hx
      subst hx
      exact hl

theorem recs_of_read {H : Type} {enc : TypeId × Value → H} {P : Program} {w : World} {base : Nat} {held : Bool} {t e q : TypeId} {fuel : Nat} {a : Option Addr} {n c : Nat} {x : DataW H × List MemPlace}
    (ht : P.underlying t = some (.slice e)) (he : P.underlying e = some (.slice q)) (hq : P.underlying q = some (.int .u8)) (ce : P.cellsOf e = 1) (cq : P.cellsOf q = 1)
    (h : DataW.trod enc P w base (fun _ => true) held fuel t [.slice a n c] = some x) : ∃ L, Recs w a n c L := by
  rcases Go.Deep.open_int_rows ht he hq ce cq h with ⟨hcs, _⟩ | ⟨ad, len, cap, A, L, C, Z, hcs, _, hl, hm, _, hrow⟩
  · simp at hcs
    obtain ⟨rfl, rfl, rfl⟩ := hcs
    exact ⟨[], [], Sl.nil w 1, RL.nil _ _⟩
  · simp at hcs
    obtain ⟨rfl, rfl, rfl⟩ := hcs
    obtain ⟨LL, hLL, hp⟩ := choose_list (p := fun i l => w.cell? (ad.add i) = some (.slice (A i) (L i) (C i)) ∧ Bs w (A i) (L i) (C i) l) n fun i hi => by
      obtain ⟨h1, h2, h3, h4, h5, h6, h7⟩ := hrow i (by omega)
      cases hA : A i with
      | none =>
        have hc0 := h6 hA
        have hl0 : L i = 0 := by omega
        rw [hA] at h1
        exact ⟨[], h1, by rw [hl0, hc0]; exact Sl.nil w 1⟩
      | some y =>
        obtain ⟨l, hb⟩ := bs_of_row h2 h3 h4 (fun j hj => (h7 y hA).2 j hj) h5
        rw [hA] at h1
        exact ⟨l, h1, hb⟩
    refine ⟨LL, (List.range n).map fun i => .slice (A i) (L i) (C i), ⟨by simp, hl, hm, by simp, fun i u hi => ?_⟩, by simp [hLL], fun i l hi => ?_⟩
    · have hlt : i < n := by
        have := (List.getElem?_eq_some_iff.1 hi).1
        simpa using this
      have hu : u = .slice (A i) (L i) (C i) := by simp [hlt] at hi; exact hi.symm
      obtain ⟨l, hl'⟩ : ∃ l, LL[i]? = some l := ⟨LL[i]'(by omega), by simp⟩
      obtain ⟨hc, _⟩ := hp i l hl'
      obtain ⟨b, o, s⟩ := ad
      have hs : s = none := by
        obtain ⟨l0, hl0⟩ : ∃ l, LL[0]? = some l := ⟨LL[0]'(by omega), by simp⟩
        have hc0 := (hp 0 l0 hl0).1
        simpa [Addr.add] using World.cell?_spot hc0
      subst hs
      exact ⟨b, o, rfl, by rw [hu]; rw [Addr.add_lit] at hc; exact hc⟩
    · have hlt : i < n := by
        have := (List.getElem?_eq_some_iff.1 hi).1
        omega
      obtain ⟨_, hb⟩ := hp i l hi
      exact ⟨A i, L i, C i, by simp [hlt], hb, fun _ _ => trivial⟩
end Go.Proofs.Ytelbapljkefjcaa
