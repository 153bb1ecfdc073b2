/- An entry in memory. Conditions: they lie in memory. -/
import Derived.Test.YtojkggppcmdepaaGreatTrQ
namespace Go.Proofs.YtojkggppcmdepaaGreat
open Go.RowKit Go.Wh Go.Maps

/-- An entry's value, its slices given. -/
def eV (e : PE) (ov nv mv lv dv pv : Value) : Array Value := #[.int .i64 e.kind, .int .i64 e.txn, .int .i64 e.unit, .int .i64 e.half, .int .i64 e.prev, .int .i64 e.next, .int .i64 e.ap, .int .i64 e.ac, .int .i64 e.tp, .int .i64 e.tc, ov, nv, mv, lv, dv, pv]
/-- An entry in memory, in blocks of Q. -/
structure EIs (w : World) (Q : Nat → Prop) (e : PE) (ov nv mv lv dv pv : Value) : Prop where
  o : Sl w Q 1 ov e.old.length (bc e.old)
  n : Sl w Q 1 nv e.new.length (bc e.new)
  m : Sl w Q 4 mv e.moves.length (e.moves.flatMap mvC)
  l : Sl w Q 4 lv e.lives.length (e.lives.flatMap lvC)
  d : Sl w Q 2 dv e.dirty.length (e.dirty.flatMap dtC)
  p : OpSl w Q pv e.opens.length e.opens
  bo : Byt e.old
  bn : Byt e.new
theorem EIs.only {w w' : World} {Q X : Nat → Prop} {e : PE} {ov nv mv lv dv pv : Value} (h : EIs w Q e ov nv mv lv dv pv) (ho : Only X w w') (hq : ∀ g, Q g → ¬ X g) : EIs w' Q e ov nv mv lv dv pv :=
  ⟨h.o.only ho hq, h.n.only ho hq, h.m.only ho hq, h.l.only ho hq, h.d.only ho hq, h.p.only ho hq, h.bo, h.bn⟩
theorem EIs.still {w w' : World} {Q : Nat → Prop} {e : PE} {ov nv mv lv dv pv : Value} (h : EIs w Q e ov nv mv lv dv pv) (hs : Still w w') : EIs w' Q e ov nv mv lv dv pv := h.only hs fun _ _ e => e
theorem EIs.forms {w : World} {Q : Nat → Prop} {e : PE} {ov nv mv lv dv pv : Value} (h : EIs w Q e ov nv mv lv dv pv) : ∃ oa oc na nc ma mc la lc da dc pa pc, ov = .slice oa e.old.length oc ∧ nv = .slice na e.new.length nc ∧ mv = .slice ma e.moves.length mc ∧ lv = .slice la e.lives.length lc ∧ dv = .slice da e.dirty.length dc ∧ pv = .slice pa e.opens.length pc := by
  obtain ⟨a1, b1, e1⟩ := h.o.form
  obtain ⟨a2, b2, e2⟩ := h.n.form
  obtain ⟨a3, b3, e3⟩ := h.m.form
  obtain ⟨a4, b4, e4⟩ := h.l.form
  obtain ⟨a5, b5, e5⟩ := h.d.form
  obtain ⟨_, _, h6, _⟩ := h.p
  obtain ⟨a6, b6, e6⟩ := h6.form
  exact ⟨a1, b1, a2, b2, a3, b3, a4, b4, a5, b5, a6, b6, e1, e2, e3, e4, e5, e6⟩

end Go.Proofs.YtojkggppcmdepaaGreat
