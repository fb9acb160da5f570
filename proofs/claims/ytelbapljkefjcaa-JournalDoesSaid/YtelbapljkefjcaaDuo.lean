/-
  The program's device and journal, and the reference's, side by side.
-/
import Derived.Test.YtelbapljkefjcaaTwo
namespace Go.Proofs.Ytelbapljkefjcaa
open Go.RowKit

/-- No two of them share a block. -/
structure Four (g h j jr : Nat) (dv rv : Value) : Prop where
  ap : Apart2 g h dv rv
  jg : j ≠ g
  jh : j ≠ h
  rg : jr ≠ g
  rh : jr ≠ h
  jj : j ≠ jr
  dj : dv.ownBlock ≠ some j
  dr : dv.ownBlock ≠ some jr
  ej : rv.ownBlock ≠ some j
  er : rv.ownBlock ≠ some jr

structure Duo (w : World) (base g h j jr : Nat) (dv rv : Value) (D E : DS) (N : Nat) (en : Bool) (M : Nat) (em : Bool) : Prop where
  p : Dev w base 63 g dv D
  r : Dev w base 56 h rv E
  pj : Jn w base 66 j g N en
  rj : Jn w base 54 jr h M em
  ap : Four g h j jr dv rv

section
variable {w w' : World} {base g h j jr : Nat} {dv rv dv' rv' : Value} {D E D' E' : DS} {N M N' M' : Nat} {en em en' em' : Bool}

theorem Duo.below (d : Duo w base g h j jr dv rv D E N en M em) (hb : Below w.heap.size w w') : Duo w' base g h j jr dv rv D E N en M em :=
  ⟨d.p.below hb, d.r.below hb, d.pj.below hb, d.rj.below hb, d.ap⟩

theorem Duo.jmovedP (d : Duo w base g h j jr dv rv D E N en M em) (hm : JMoved w w' j g dv dv') (hp : Dev w' base 63 g dv' D') (hj : Jn w' base 66 j g N' en') (hd : dv'.ownBlock ≠ some j) : Duo w' base g h j jr dv' rv D' E N' en' M em := by
  have a := d.ap
  have l1 := d.r.lt
  have l2 := d.rj.lt
  have own : ∀ k, k < w.heap.size → dv.ownBlock ≠ some k → dv'.ownBlock ≠ some k := fun k hk hne e => by
    rcases hm.own k e with h' | h'
    · exact hne h'
    · omega
  refine ⟨hp, ?_, hj, ?_, ⟨⟨a.ap.gh, a.ap.gr, own _ l1 a.ap.hd, fun k hk hk' => ?_⟩, a.jg, a.jh, a.rg, a.rh, a.jj, hd, own _ l2 a.dr, a.ej, a.er⟩⟩
  · exact d.r.keep (hm.block _ l1 (fun e => a.jh e.symm) (fun e => a.ap.gh e.symm) (fun e => a.ap.hd e.symm)) fun k hk => hm.block k (d.r.own.lt k hk).2 (fun e => a.ej (by rw [hk, e])) (fun e => a.ap.gr (by rw [hk, e])) (fun e => a.ap.dr k e.symm hk)
  · exact d.rj.keep (hm.block _ l2 (fun e => a.jj e.symm) a.rg (fun e => a.dr e.symm))
  · exact own k (d.r.own.lt k hk').2 (fun e => a.ap.dr k e hk') hk

theorem Duo.jmovedR (d : Duo w base g h j jr dv rv D E N en M em) (hm : JMoved w w' jr h rv rv') (hp : Dev w' base 56 h rv' E') (hj : Jn w' base 54 jr h M' em') (hd : rv'.ownBlock ≠ some jr) : Duo w' base g h j jr dv rv' D E' N en M' em' := by
  have a := d.ap
  have l1 := d.p.lt
  have l2 := d.pj.lt
  have own : ∀ k, k < w.heap.size → rv.ownBlock ≠ some k → rv'.ownBlock ≠ some k := fun k hk hne e => by
    rcases hm.own k e with h' | h'
    · exact hne h'
    · omega
  refine ⟨?_, hp, ?_, hj, ⟨⟨a.ap.gh, own _ l1 a.ap.gr, a.ap.hd, fun k hk => own k (d.p.own.lt k hk).2 (a.ap.dr k hk)⟩, a.jg, a.jh, a.rg, a.rh, a.jj, a.dj, a.dr, own _ l2 a.ej, hd⟩⟩
  · exact d.p.keep (hm.block _ l1 (fun e => a.rg e.symm) a.ap.gh (fun e => a.ap.gr e.symm)) fun k hk => hm.block k (d.p.own.lt k hk).2 (fun e => a.dr (by rw [hk, e])) (fun e => a.ap.hd (by rw [hk, e])) (fun e => a.ap.dr k hk e.symm)
  · exact d.pj.keep (hm.block _ l2 a.jj a.jh (fun e => a.ej e.symm))

theorem Duo.movedP (d : Duo w base g h j jr dv rv D E N en M em) (hm : Moved w w' g dv dv') (hp : Dev w' base 63 g dv' D') : Duo w' base g h j jr dv' rv D' E N en M em := by
  have l := d.pj.lt
  refine d.jmovedP (hm.j j) hp (d.pj.moved hm d.ap.jg d.ap.dj) fun e => ?_
  rcases hm.own j e with h' | h'
  · exact d.ap.dj h'
  · omega
theorem Duo.movedR (d : Duo w base g h j jr dv rv D E N en M em) (hm : Moved w w' h rv rv') (hp : Dev w' base 56 h rv' E') : Duo w' base g h j jr dv rv' D E' N en M em := by
  have l := d.rj.lt
  refine d.jmovedR (hm.j jr) hp (d.rj.moved hm d.ap.rh d.ap.er) fun e => ?_
  rcases hm.own jr e with h' | h'
  · exact d.ap.er h'
  · omega
end

/-- Both have been opened, one after the other. -/
theorem duo_new {w4 w5 w6 : World} {base g h j jr N M : Nat} {dv rv dv5 rv6 : Value} {D0 E0 D E : DS} (p4 : Dev w4 base 63 g dv D0) (r4 : Dev w4 base 56 h rv E0) (a4 : Apart2 g h dv rv)
    (m5 : Moved w4 w5 g dv dv5) (p5 : Dev w5 base 63 g dv5 D) (j5 : Jn w5 base 66 j g N false) (l5 : w4.heap.size ≤ j) (d5 : dv5.ownBlock ≠ some j)
    (m6 : Moved w5 w6 h rv rv6) (r6 : Dev w6 base 56 h rv6 E) (j6 : Jn w6 base 54 jr h M false) (l6 : w5.heap.size ≤ jr) (d6 : rv6.ownBlock ≠ some jr) :
    Duo w6 base g h j jr dv5 rv6 D E N false M false := by
  obtain ⟨r5, a5⟩ := Dev.movedP p4 r4 a4 m5
  obtain ⟨p6, a6⟩ := Dev.movedP r5 p5 a5.symm m6
  have lg := p4.lt
  have lh := r4.lt
  have s5 := m5.size
  have lj := j5.lt
  have rown : rv.ownBlock ≠ some j := fun e => by have := (r4.own.lt _ e).2; omega
  refine ⟨p6, r6, j5.keep (m6.block j lj (by omega) (fun e => rown e.symm)), j6, ⟨a6.symm, by omega, by omega, by omega, by omega, by omega, d5, fun e => by have := (p5.own.lt _ e).2; omega, fun e => ?_, d6⟩⟩
  rcases m6.own j e with h' | h'
  · exact rown h'
  · omega

theorem open_crash (D : DS) (keep : Int) : (D.crash keep).open.2.2 = 0 := by
  have h1 := scan_le (D.crash keep).data
  have h2 : (D.crash keep).off = false := rfl
  have h3 : ((D.crash keep).trunc (scan (D.crash keep).data).2).2 = 0 := by
    have hn : ¬ (((scan (D.crash keep).data).2 : Int) < 0 ∨ ((D.crash keep).data.length : Int) < ((scan (D.crash keep).data).2 : Int)) := by omega
    have h4 : (D.crash keep).armed = 0 := rfl
    simp only [DS.trunc, h2, Bool.false_eq_true, if_false]
    rw [if_neg hn]
    simp [DS.operate, h4]
  unfold DS.open
  rw [h2, h3]
  simp
  split <;> rfl
end Go.Proofs.Ytelbapljkefjcaa
