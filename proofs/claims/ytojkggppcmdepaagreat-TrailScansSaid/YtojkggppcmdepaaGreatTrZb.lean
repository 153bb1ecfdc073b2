/- Bytes as an entry: words. Conditions: they lie in memory. -/
import Derived.Test.YtojkggppcmdepaaGreatTrZa
import Derived.Test.YtojkggppcmdepaaGreatAgg
namespace Go.Proofs.YtojkggppcmdepaaGreat
open Go.RowKit Go.Wh Go.Maps

theorem size_en : (Tryz.prog.info? 34).map (·.size) = some 16 := by kernel_rfl
theorem under_en : ∃ d, Tryz.prog.underlying 34 = some d ∧ aggB d = true := ⟨_, Tryz.underlying34, rfl⟩
/-- The entry that says nothing. -/
def zE : List Value := [.int .i64 0, .int .i64 0, .int .i64 0, .int .i64 0, .int .i64 0, .int .i64 0, .int .i64 0, .int .i64 0, .int .i64 0, .int .i64 0, .slice none 0 0, .slice none 0 0, .slice none 0 0, .slice none 0 0, .slice none 0 0, .slice none 0 0]
/-- The reader, a result, and an entry that is filled. -/
structure TkSt (W : World) (Q : Nat → Prop) (r b2 b3 : Nat) (s : RS) (e : PE) (ov nv mv lv dv pv : Value) (w : World) : Prop where
  rd : RAt W (fun b => b = r) Q r s w
  z : cellsAt w b2 zE
  c : cellsAt w b3 (eV e ov nv mv lv dv pv).toList
  el : EIs w (fun g => b3 < g) e ov nv mv lv dv pv
  z2 : b2 < W.heap.size
  z3 : W.heap.size ≤ b3
  n2 : b2 ≠ r
section
variable {W w w' : World} {Q : Nat → Prop} {r b2 b3 : Nat} {s s' : RS} {e e' : PE} {ov nv mv lv dv pv ov' nv' mv' lv' dv' pv' : Value}
theorem TkSt.r3 (h : TkSt W Q r b2 b3 s e ov nv mv lv dv pv w) : r < b3 := Nat.lt_of_lt_of_le h.rd.rl h.z3
theorem TkSt.call (h : TkSt W Q r b2 b3 s e ov nv mv lv dv pv w) (k : RAt w (fun b => b = r) Q r s' w') : TkSt W Q r b2 b3 s' e ov nv mv lv dv pv w' :=
  ⟨h.rd.back k, h.z.only k.only h.n2, h.c.only k.only (fun e => by have := h.r3; omega), h.el.only k.only (fun g hg e => by have := h.r3; omega), h.z2, h.z3, h.n2⟩
theorem TkSt.store (h : TkSt W Q r b2 b3 s e ov nv mv lv dv pv w) (i : Nat) (u : Value) (hc : (eV e ov nv mv lv dv pv).toList.set i u = (eV e' ov' nv' mv' lv' dv' pv').toList) (he : EIs w (fun g => b3 < g) e' ov' nv' mv' lv' dv' pv') : TkSt W Q r b2 b3 s e' ov' nv' mv' lv' dv' pv' (w.setCell ⟨b3, i, none⟩ u) :=
  ⟨h.rd.setNew h.z3 u, h.z.setOther (fun e => by have := h.z2; have := h.z3; have e' : b2 = b3 := e; omega) u, by rw [← hc]; exact h.c.setCell i u, he.only (setCell_only w ⟨b3, i, none⟩ u) (fun g hg e => by have e' : g = b3 := e; omega), h.z2, h.z3, h.n2⟩
theorem EIs.none (k t u hf p n a b c d : Int) {P : Nat → Prop} : EIs w P ⟨k, t, u, hf, p, n, a, b, c, d, [], [], [], [], [], []⟩ (.slice none 0 0) (.slice none 0 0) (.slice none 0 0) (.slice none 0 0) (.slice none 0 0) (.slice none 0 0) :=
  ⟨Sl.nil, Sl.nil, Sl.nil, Sl.nil, Sl.nil, OpSl.nil, (fun z hz => by cases hz), (fun z hz => by cases hz)⟩
theorem numS_byt {n : Nat} (h : Byt s.1) : Byt (numS n s).2.1 := by
  unfold numS tkS
  split
  · intro z hz; cases hz
  · exact h.drop n
theorem imS_byt (h : Byt s.1) : Byt (imS s).1 := tkS_byt (numS_byt h)
theorem imS_len {k : Nat} (h : s.1.length ≤ k) : (imS s).2.1.length ≤ k := tkS_len (numS_len h)
theorem OpSl.mono {P R : Nat → Prop} {dv : Value} {m : Nat} {l : List POp} (h : OpSl w P dv m l) (hr : ∀ g, P g → R g) : OpSl w R dv m l := by
  obtain ⟨mvs, h1, h2, h3⟩ := h
  exact ⟨mvs, h1, h2.mono hr, fun k o mv hk hm => (h3 k o mv hk hm).mono hr⟩
theorem EIs.put_num {P : Nat → Prop} (h : EIs w P e ov nv mv lv dv pv) (h1 : e'.old = e.old) (h2 : e'.new = e.new) (h3 : e'.moves = e.moves) (h4 : e'.lives = e.lives) (h5 : e'.dirty = e.dirty) (h6 : e'.opens = e.opens) : EIs w P e' ov nv mv lv dv pv :=
  ⟨by rw [h1]; exact h.o, by rw [h2]; exact h.n, by rw [h3]; exact h.m, by rw [h4]; exact h.l, by rw [h5]; exact h.d, by rw [h6]; exact h.p, by rw [h1]; exact h.bo, by rw [h2]; exact h.bn⟩
theorem EIs.mono {P R : Nat → Prop} (h : EIs w P e ov nv mv lv dv pv) (hr : ∀ g, P g → R g) : EIs w R e ov nv mv lv dv pv :=
  ⟨h.o.mono hr, h.n.mono hr, h.m.mono hr, h.l.mono hr, h.d.mono hr, OpSl.mono h.p hr, h.bo, h.bn⟩
theorem cellsAt.still {r : Nat} {l : List Value} (h : cellsAt w r l) (hs : Still w w') : cellsAt w' r l := h.only hs fun e => e
theorem lvS_len' {k : Nat} (h : s.1.length ≤ k) : (lvS s).2.1.length ≤ k := lvS_len h
end

theorem decS_of {s : RS} {q0 : Int × RS} {q1 : Int × RS} {q2 : Int × RS} {q3 : Int × RS} {q4 : Int × RS} {q5 : Int × RS} {q6 : (Int × Int) × RS} {q7 : (Int × Int) × RS} {q8 : List Int × RS} {q9 : List Int × RS} {q10 : List PMv × RS} {q11 : List PLv × RS} {q12 : List PDt × RS} {q13 : List POp × RS} (h0 : numS 1 s = q0) (h1 : numS 1 q0.2 = q1) (h2 : numS 2 q1.2 = q2) (h3 : numS 1 q2.2 = q3) (h4 : numS 3 q3.2 = q4) (h5 : numS 3 q4.2 = q5) (h6 : spS q5.2 = q6) (h7 : spS q6.2 = q7) (h8 : imS q7.2 = q8) (h9 : imS q8.2 = q9) (h10 : readsS mvS q9.2 = q10) (h11 : readsS lvS q10.2 = q11) (h12 : readsS dtS q11.2 = q12) (h13 : readsS opS q12.2 = q13) : decS s = (⟨q0.1, q1.1, q2.1, q3.1, q4.1, q5.1, q6.1.1, q6.1.2, q7.1.1, q7.1.2, q8.1, q9.1, q10.1, q11.1, q12.1, q13.1⟩, q13.2) := by
  subst h6 h7
  have e8 : imS (numS 1 (numS 1 (numS 1 (numS 1 q5.2).2).2).2).2 = q8 := h8
  simp only [decS, h0, h1, h2, h3, h4, h5, e8, h9, h10, h11, h12, h13]
  rfl

/-- What is taken: an entry, or none. -/
def TakePost (w : World) (b : List Int) (en : Ending) (w' : World) : Prop :=
  Still w w' ∧ match takeE b with
  | some e => ∃ ov nv mv lv dv pv, en = .returned (.tuple #[.agg (eV e ov nv mv lv dv pv), .int .i64 0]) ∧ EIs w' (fun g => w.heap.size ≤ g) e ov nv mv lv dv pv
  | none => en = .returned (.tuple #[.agg zE.toArray, .int .i64 4])
theorem TakePost.yes {w w' : World} {b : List Int} {e : PE} {ov nv mv lv dv pv : Value} (ht : takeE b = some e) (hs : Still w w') (he : EIs w' (fun g => w.heap.size ≤ g) e ov nv mv lv dv pv) : TakePost w b (.returned (.tuple #[.agg (eV e ov nv mv lv dv pv), .int .i64 0])) w' := by
  refine ⟨hs, ?_⟩
  rw [ht]
  exact ⟨ov, nv, mv, lv, dv, pv, rfl, he⟩
theorem TakePost.no {w w' : World} {b : List Int} (ht : takeE b = none) (hs : Still w w') : TakePost w b (.returned (.tuple #[.agg zE.toArray, .int .i64 4])) w' := by
  refine ⟨hs, ?_⟩
  rw [ht]
end Go.Proofs.YtojkggppcmdepaaGreat
