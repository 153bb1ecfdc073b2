/- Slices that are made and appended to in one region, in whatever order: each is what it must be, all lie apart. No conditions. The reference's index: in memory; where a key stands. Conditions: it lies in memory. The reference's index: which rows may be; put. Conditions: it lies in memory, of at most ten thousand rows; keys of at most a thousand bytes. The reference's index: cut. Conditions: it lies in memory, of at most ten thousand rows. The reference's index: find, move, mend. Conditions: it lies in memory, of at most ten thousand rows. The reference's index: mend. Conditions: it lies in memory, of at most ten thousand rows. The reference's index: what is gathered by two appends of a round. No conditions. The reference's index: seek. Conditions: it lies in memory, of at most ten thousand rows. The reference's index: from. Conditions: it lies in memory, of at most ten thousand rows. What no index answers; whether what was told twice is the same. Conditions: lists in memory. Whether what was told twice is the same. Conditions: lists in memory. An index and the reference's index side by side. Conditions: both lie in memory. IndexAll: the walk. Conditions: a row of at most sixty deeds, two texts of at most ten bytes; the library's variable holds a number. IndexAll: the row of deeds, as it is handed in. Conditions: it can be read as data. IndexAll: for every input the law returns true and its arguments read as before; the card. No conditions beyond the row's. -/
import Derived.Test.YtedfijmaeoednaaGreatDoorBx27
import Derived.Deep.QuietTactic
import Derived.BigQuiet
import Derived.Laws.ResultCell
import Derived.BigRegion
import Derived.Deep.DeepCutAuto
import Derived.Deep.CutBlock
import Derived.Deep.RegionHeld3
import Derived.Deep.Slices
import Derived.Deep.Fields
import Derived.ChangeSame
import Derived.Test.YtedfijmaeoednaaGreatDoorCards
namespace Go.Wh
open Go.RowKit

/-- What each operation of I leaves (n elements of sz cells: cs), till 'use' takes it. -/
structure ChS where
  I : List Nat
  sz : Nat → Nat
  n : Nat → Nat
  cs : Nat → List Value
  use : Nat → Nat

structure ChJ (W : World) (X : ChS) (L : Nat → Bool) (xs : Nat → Value) (w : World) : Prop where
  still : Only (fun _ => False) W w
  vec : ∀ i ∈ X.I, L i = true → L (X.use i) = false → Vec w (X.sz i) (xs i) (X.n i) (X.cs i) ∧ ∀ g, (xs i).ownBlock = some g → W.heap.size ≤ g ∧ g < w.heap.size
  apart : ∀ i ∈ X.I, ∀ j ∈ X.I, i ≠ j → L i = true → L j = true → L (X.use i) = false → L (X.use j) = false → ∀ g, (xs i).ownBlock = some g → (xs j).ownBlock ≠ some g

section
variable {W w w' : World} {X : ChS} {L : Nat → Bool} {xs : Nat → Value} {i s : Nat} {v : Value}
theorem ChJ.start (hs : Only (fun _ => False) W w) (hl : ∀ j ∈ X.I, L j = false) : ChJ W X L xs w :=
  ⟨hs, (fun j hj h => by rw [hl j hj] at h; cases h), (fun j hj _ _ _ h => by rw [hl j hj] at h; cases h)⟩
theorem upN_at {α : Type} (f : Nat → α) (i : Nat) (v : α) : upN f i v i = v := if_pos rfl
theorem upN_other {α : Type} (f : Nat → α) {i j : Nat} (v : α) (h : j ≠ i) : upN f i v j = f j := if_neg h
theorem upN_false {L : Nat → Bool} {i j : Nat} (h : upN L i true j = false) : j ≠ i ∧ L j = false := by
  by_cases e : j = i
  · subst e
    rw [upN_at] at h
    cases h
  · rw [upN_other _ _ e] at h
    exact ⟨e, h⟩
/-- One more, in a block of its own. -/
theorem ChJ.build (h : ChJ W X L xs w) (ob : Obj) (hv : Vec (w.alloc ob) (X.sz i) v (X.n i) (X.cs i)) (hg : ∀ g, v.ownBlock = some g → g = w.heap.size) : ChJ W X (upN L i true) (upN xs i v) (w.alloc ob) := by
  have hz : (w.alloc ob).heap.size = w.heap.size + 1 := by simp
  have hsz := h.still.size
  refine ⟨h.still.alloc ob, fun j hj h1 h2 => ?_, fun j hj k hk hjk h1 h2 h3 h4 g hgj => ?_⟩
  · by_cases e : j = i
    · subst e
      rw [upN_at]
      exact ⟨hv, fun g e => by rw [hg g e]; omega⟩
    · rw [upN_other _ _ e] at h1 ⊢
      obtain ⟨a, b⟩ := h.vec j hj h1 (upN_false h2).2
      exact ⟨a.alloc ob, fun g hg => by have := b g hg; omega⟩
  · by_cases e : j = i
    · subst e
      rw [upN_at] at hgj
      have e2 : k ≠ j := Ne.symm hjk
      rw [upN_other _ _ e2] at h2 ⊢
      intro hgk
      have := (h.vec k hk h2 (upN_false h4).2).2 g hgk
      have := hg g hgj
      omega
    · rw [upN_other _ _ e] at h1 hgj
      by_cases e2 : k = i
      · subst e2
        rw [upN_at]
        intro hgk
        have := (h.vec j hj h1 (upN_false h3).2).2 g hgj
        have := hg g hgk
        omega
      · rw [upN_other _ _ e2] at h2 ⊢
        exact h.apart j hj k hk hjk h1 h2 (upN_false h3).2 (upN_false h4).2 g hgj
/-- One is appended to. -/
theorem ChJ.app (h : ChJ W X L xs w) (hs' : X.I.contains s = true) (hus : X.use s = i) (hls : L s = true) (hli : L i = false) (hv : Vec w' (X.sz i) v (X.n i) (X.cs i)) (ho : Only (fun k => (xs s).ownBlock = some k) w w')
    (hb : v.ownBlock = (xs s).ownBlock ∨ ∃ g, v.ownBlock = some g ∧ w.heap.size ≤ g ∧ g < w'.heap.size) : ChJ W X (upN L i true) (upN xs i v) w' := by
  have hs : s ∈ X.I := List.contains_iff_mem.1 hs'
  have hsv := h.vec s hs hls (by rw [hus]; exact hli)
  have hsz := h.still.size
  have hoz := ho.size
  have hvb : ∀ g, v.ownBlock = some g → W.heap.size ≤ g ∧ g < w'.heap.size := fun g hg => by
    rcases hb with e | ⟨g', e, h1, h2⟩
    · have := hsv.2 g (e.symm.trans hg)
      omega
    · rw [e] at hg
      injection hg with hg
      omega
  have hne : ∀ j, j ∈ X.I → j ≠ i → L j = true → upN L i true (X.use j) = false → j ≠ s ∧ L (X.use j) = false := fun j _ _ _ h2 => by
    obtain ⟨e1, e2⟩ := upN_false h2
    exact ⟨fun e => e1 (by rw [e]; exact hus), e2⟩
  have hap : ∀ j, j ∈ X.I → j ≠ i → L j = true → upN L i true (X.use j) = false → ∀ g, (xs j).ownBlock = some g → v.ownBlock ≠ some g := fun j hj hji h1 h2 g hg hvg => by
    obtain ⟨e1, e2⟩ := hne j hj hji h1 h2
    rcases hb with e | ⟨g', e, h3, h4⟩
    · exact h.apart j hj s hs e1 h1 hls e2 (by rw [hus]; exact hli) g hg (e.symm.trans hvg)
    · have := (h.vec j hj h1 e2).2 g hg
      rw [e] at hvg
      injection hvg with hvg
      omega
  refine ⟨h.still.andThen ho fun b hb e => by have := hsv.2 b e; omega, fun j hj h1 h2 => ?_, fun j hj k hk hjk h1 h2 h3 h4 g hgj => ?_⟩
  · by_cases e : j = i
    · subst e
      rw [upN_at]
      exact ⟨hv, hvb⟩
    · rw [upN_other _ _ e] at h1 ⊢
      obtain ⟨e1, e2⟩ := hne j hj e h1 h2
      obtain ⟨a, b⟩ := h.vec j hj h1 e2
      exact ⟨a.only ho fun g hg => h.apart s hs j hj (Ne.symm e1) hls h1 (by rw [hus]; exact hli) e2 |> fun q e3 => q g e3 hg, fun g hg => by have := b g hg; omega⟩
  · by_cases e : j = i
    · subst e
      rw [upN_at] at hgj
      have e2 : k ≠ j := Ne.symm hjk
      rw [upN_other _ _ e2] at h2 ⊢
      exact fun hgk => hap k hk e2 h2 h4 g hgk hgj
    · rw [upN_other _ _ e] at h1 hgj
      by_cases e2 : k = i
      · subst e2
        rw [upN_at]
        exact hap j hj e h1 h3 g hgj
      · rw [upN_other _ _ e2] at h2 ⊢
        exact h.apart j hj k hk hjk h1 h2 (hne j hj e h1 h3).2 (hne k hk e2 h2 h4).2 g hgj
end

section
variable {P : Program}
/-- A part of a slice, as the program cuts it. -/
theorem Vec.part {size n : Nat} {v : Value} {xs : List Value} (t : TypeId) (ht : P.underlying t = some (.slice (P.elem t))) (hz : ∀ w, (sizeOf (P.elem t)).run P w = .ok size w) {w0 : World} (h0 : Vec w0 size v n xs) {lo hi : Nat} (h1 : lo ≤ hi) (h2 : hi ≤ n) :
    ∃ v', (∀ w, (Instr.slice t v (some (.int .i64 (lo : Int))) (some (.int .i64 (hi : Int))) none).run P w = .ok v' w) ∧ (lo = 0 → ∀ w, (Instr.slice t v none (some (.int .i64 (hi : Int))) none).run P w = .ok v' w) ∧ (hi = n → ∀ w, (Instr.slice t v (some (.int .i64 (lo : Int))) none none).run P w = .ok v' w) ∧
      ∀ w, Vec w size v n xs → Vec w size v' (hi - lo) ((xs.drop (lo * size)).take ((hi - lo) * size)) := by
  rcases h0 with ⟨rfl, rfl, rfl⟩ | ⟨g, o, cap, rfl, hv⟩
  · have e1 : hi = 0 := by omega
    have e2 : lo = 0 := by omega
    subst e1 e2
    refine ⟨.slice none 0 0, fun w => ?_, fun _ w => ?_, fun _ w => ?_, fun w _ => by simpa using Vec.nil w size⟩
    · rw [run_slice_lh w t none 0 0 ht .i64 .i64 _ _ (by omega) (by omega) (by omega), hz]
      simp [Result.andThen, sliced]
    · rw [run_slice_h w t none 0 0 ht .i64 _ (by omega) (by omega), hz]
      simp [Result.andThen, sliced]
    · rw [run_slice_l w t none 0 0 ht .i64 _ (by omega) (by omega), hz]
      simp [Result.andThen, sliced]
  · have hle := hv.le
    refine ⟨sliced (some ⟨g, o, none⟩) lo hi cap size, fun w => ?_, fun e w => ?_, fun e w => ?_, fun w hw => ?_⟩
    · rw [run_slice_lh w t _ _ _ ht .i64 .i64 _ _ (by omega) (by omega) (by omega), hz]
      rfl
    · subst e
      rw [run_slice_h w t _ _ _ ht .i64 _ (by omega) (by omega), hz]
      rfl
    · subst e
      rw [run_slice_l w t _ _ _ ht .i64 _ (by omega) (by omega), hz]
      rfl
    · have := hw.at.cut lo hi cap h1 h2 (by omega) (Nat.le_refl _)
      have e : sliced (some ⟨g, o, none⟩) lo hi cap size = .slice (some (cutAddr size g o lo cap)) (hi - lo) (cap - lo) := by
        unfold sliced cutAddr
        split <;> simp
      rw [e]
      exact this
end

section
variable {P : Program} {ops : Array Oper} {Q : Exit → Act → World → Prop} {W : World} {X : ChS} {B : List (Nat × Nat)} {dep : Nat → List Nat} {a : Act} {i s tt : Nat} {o : Oper}
/-- The step of an append, whatever came before. -/
theorem ChJ.stepApp (s : Nat) (ho : ops[i]? = some o) (hgd : o.guard = none) (ds dx : Operand) (t : TypeId) (hop : o.op = Op.call { callee := Callee.builtin Builtin.append, args := #[ds, dx], argTypes := #[t, t] }) (hdst : o.dst = some tt)
    (e : TypeId) (inf : TypeInfo) (z : Value) (size bytes : Nat) (h1 : P.underlying t = some (.slice e)) (h2 : P.info? e = some inf) (h3 : inf.zero = some z) (h4 : inf.size = size) (h5 : inf.bytes = bytes) (h6 : z.cells.size = size) (h7 : 0 < size)
    (m : Nat) (news : List Value) (hs : X.I.contains s = true) (hus : X.use s = i) (hdep : s ∈ dep i) (hsz : X.sz s = size) (hszi : X.sz i = size) (hn : X.n i = X.n s + m) (hc : X.cs i = X.cs s ++ news) (h1c : ∀ u ∈ news, u.oneCell' = true)
    (b1 : X.n s + m ≤ maxLen) (b2 : (X.n s + m) * bytes ≤ 140737488355328) (hev : ∀ xs, (fillA B xs a).eval ds = xs s)
    (hx : ∀ L xs w, (∀ j ∈ dep i, L j = true) → L i = false → ChJ W X L xs w → ∃ vx, (fillA B xs a).eval dx = vx ∧ Reads w size vx m news) : StepM P ops Q (ChJ W X) B dep a i tt := by
  refine StepM.of ho fun L xs w hd hl hJ K hK => ?_
  obtain ⟨vx, e1, e2⟩ := hx L xs w hd hl hJ
  have hv := (hJ.vec s (List.contains_iff_mem.1 hs) (hd s hdep) (by rw [hus]; exact hl)).1
  refine step_append_vec hgd ds dx t hop e inf z size bytes h1 h2 h3 h4 h5 h6 h7 (xs s) (X.n s) (X.cs s) (hev xs) (hsz ▸ hv) vx m news e1 e2 h1c b1 b2 ?_
  intro v' w' hv' ho' hb'
  exact hK _ _ (hJ.app hs hus (hd s hdep) hl (by rw [hszi, hn, hc]; exact hv') ho' hb') _ (by rw [hdst])
end
/-- Three are put together: what lies ahead, one, what lies behind (as in append(append(append(none, x[:p]..), one), x[p:]..)); by their numbers. -/
def chain3 (b1 a1 b2 a2 a3 : Nat) (sz p m : Nat) (c1 c2 c3 : List Value) : ChS :=
  { I := [b1, a1, b2, a2, a3], sz := fun _ => sz, n := fun i => if i = a1 then p else if i = b2 then 1 else if i = a2 then p + 1 else if i = a3 then p + 1 + m else 0,
    cs := fun i => if i = a1 then c1 else if i = b2 then c2 else if i = a2 then c1 ++ c2 else if i = a3 then c1 ++ c2 ++ c3 else [], use := fun i => if i = b1 then a1 else if i = a1 then a2 else if i = b2 then a2 else if i = a2 then a3 else 999 }
/-- Two are put together. -/
def chain2 (b1 a1 a2 : Nat) (sz p m : Nat) (c1 c2 : List Value) : ChS :=
  { I := [b1, a1, a2], sz := fun _ => sz, n := fun i => if i = a1 then p else if i = a2 then p + m else 0,
    cs := fun i => if i = a1 then c1 else if i = a2 then c1 ++ c2 else [], use := fun i => if i = b1 then a1 else if i = a1 then a2 else 999 }
end Go.Wh

namespace Go.Proofs.YtedfijmaeoednaaGreatDoor
open Go.RowKit Go.Wh Go.Proofs.YtedfijmaeoednaaGreatDoor.Tw

/-- A row of it, as cells. -/
def wcell (e : Rw) : List Value := [.string e.key, .string e.sec, .int .i64 e.f.1, .int .i64 e.f.2, .int .i64 e.n.1, .int .i64 e.n.2]
def wcells (R : List Rw) : List Value := R.flatMap wcell
theorem wcells_one (l : List Rw) : ∀ u ∈ wcells l, u.oneCell' = true := by
  intro u hu
  simp only [wcells, List.mem_flatMap] at hu
  obtain ⟨r, _, hr⟩ := hu
  simp only [wcell, List.mem_cons, List.not_mem_nil, or_false] at hr
  rcases hr with rfl | rfl | rfl | rfl | rfl | rfl <;> rfl
theorem wcells_cons (a : Rw) (l : List Rw) : wcells (a :: l) = .string a.key :: .string a.sec :: .int .i64 a.f.1 :: .int .i64 a.f.2 :: .int .i64 a.n.1 :: .int .i64 a.n.2 :: wcells l := rfl
theorem wcells_length (l : List Rw) : (wcells l).length = l.length * 6 := by
  induction l with
  | nil => rfl
  | cons a l ih =>
    rw [wcells_cons]
    simp only [List.length_cons, ih]
    omega
theorem wcells_append (a b : List Rw) : wcells (a ++ b) = wcells a ++ wcells b := List.flatMap_append
theorem wcells_take (l : List Rw) (n : Nat) : (wcells l).take (n * 6) = wcells (l.take n) := by
  induction l generalizing n with
  | nil => simp [wcells]
  | cons a l ih =>
    cases n with
    | zero => simp [wcells]
    | succ n =>
      rw [wcells_cons, List.take_succ_cons, wcells_cons, show (n + 1) * 6 = n * 6 + 6 by omega]
      simp [ih]
theorem wcells_drop (l : List Rw) (n : Nat) : (wcells l).drop (n * 6) = wcells (l.drop n) := by
  induction l generalizing n with
  | nil => simp [wcells]
  | cons a l ih =>
    cases n with
    | zero => simp
    | succ n =>
      rw [wcells_cons, List.drop_succ_cons, show (n + 1) * 6 = n * 6 + 6 by omega]
      simp [ih]
theorem wcells_get (l : List Rw) (i : Nat) (r : Rw) (h : l[i]? = some r) : (wcells l)[i * 6]? = some (.string r.key) ∧ (wcells l)[i * 6 + 1]? = some (.string r.sec) ∧ (wcells l)[i * 6 + 2]? = some (.int .i64 r.f.1) ∧ (wcells l)[i * 6 + 3]? = some (.int .i64 r.f.2) ∧ (wcells l)[i * 6 + 4]? = some (.int .i64 r.n.1) ∧ (wcells l)[i * 6 + 5]? = some (.int .i64 r.n.2) := by
  induction l generalizing i with
  | nil => simp at h
  | cons a l ih =>
    cases i with
    | zero =>
      simp only [List.getElem?_cons_zero, Option.some.injEq] at h
      subst h
      rw [wcells_cons]
      simp
    | succ i =>
      have := ih i (by simpa using h)
      rw [wcells_cons, show (i + 1) * 6 = i * 6 + 6 by omega]
      simpa [Nat.add_assoc] using this
theorem wcells_setF (l : List Rw) (i : Nat) (r : Rw) (v : Rid) (h : l[i]? = some r) : ((wcells l).set (i * 6 + 2) (.int .i64 v.1)).set (i * 6 + 3) (.int .i64 v.2) = wcells (l.set i { r with f := v }) := by
  induction l generalizing i with
  | nil => simp at h
  | cons a l ih =>
    cases i with
    | zero =>
      simp only [List.getElem?_cons_zero, Option.some.injEq] at h
      subst h
      rw [wcells_cons]
      simp [wcells_cons]
    | succ i =>
      have := ih i (by simpa using h)
      rw [show (a :: l).set (i + 1) { r with f := v } = a :: l.set i { r with f := v } from rfl, wcells_cons, wcells_cons, ← this, show (i + 1) * 6 + 2 = (i * 6 + 2) + 6 by omega, show (i + 1) * 6 + 3 = (i * 6 + 3) + 6 by omega]
      rfl
theorem wcells_setN (l : List Rw) (i : Nat) (r : Rw) (v : Rid) (h : l[i]? = some r) : ((wcells l).set (i * 6 + 4) (.int .i64 v.1)).set (i * 6 + 5) (.int .i64 v.2) = wcells (l.set i { r with n := v }) := by
  induction l generalizing i with
  | nil => simp at h
  | cons a l ih =>
    cases i with
    | zero =>
      simp only [List.getElem?_cons_zero, Option.some.injEq] at h
      subst h
      rw [wcells_cons]
      simp [wcells_cons]
    | succ i =>
      have := ih i (by simpa using h)
      rw [show (a :: l).set (i + 1) { r with n := v } = a :: l.set i { r with n := v } from rfl, wcells_cons, wcells_cons, ← this, show (i + 1) * 6 + 4 = (i * 6 + 4) + 6 by omega, show (i + 1) * 6 + 5 = (i * 6 + 5) + 6 by omega]
      rfl

/-- The reference's index at r: its rows. -/
structure RxAt (w : World) (r : Nat) (R : List Rw) (lv : Value) : Prop where
  cells : cellsAt w r [lv]
  v : Vec w 6 lv R.length (wcells R)
  ks : KS (rkeys R)
  nk : lv.ownBlock ≠ some r
  bk : ∀ g, lv.ownBlock = some g → g < w.heap.size
section
variable {w w' : World} {r : Nat} {R : List Rw} {lv : Value}
theorem RxAt.only {S : Nat → Prop} (h : RxAt w r R lv) (ho : Only S w w') (hr : ¬ S r) (hk : ∀ g, lv.ownBlock = some g → ¬ S g) : RxAt w' r R lv :=
  ⟨h.cells.only ho hr, h.v.only ho hk, h.ks, h.nk, fun g hg => Nat.lt_of_lt_of_le (h.bk g hg) ho.size⟩
theorem RxAt.still (h : RxAt w r R lv) (hs : Still w w') : RxAt w' r R lv := h.only hs (fun e => e) (fun _ _ e => e)
theorem RxAt.drew (h : RxAt w r R lv) : RxAt w.drew r R lv := ⟨h.cells.drew, h.v.drew, h.ks, h.nk, h.bk⟩
end

/-- What a put, a cut leaves. -/
def RxTo (w : World) (r : Nat) (lv : Value) (R' : List Rw) (u : Value) (e : Ending) (w' : World) : Prop :=
  e = .returned u ∧ ∃ lv', RxAt w' r R' lv' ∧ Only (fun b => b = r) w w' ∧ ∀ g, lv'.ownBlock = some g → lv.ownBlock = some g ∨ w.heap.size ≤ g
theorem RxTo.drew {w w' : World} {r : Nat} {lv u : Value} {R : List Rw} {e : Ending} (h : RxTo w r lv R u e w') : RxTo w r lv R u e w'.drew := by
  obtain ⟨h1, lv', h2, h3, h4⟩ := h
  exact ⟨h1, lv', h2.drew, h3.drew, h4⟩
/-- Nothing turned. -/
theorem RxTo.same {w w' : World} {r : Nat} {lv u : Value} {R : List Rw} (h : RxAt w r R lv) (hs : Still w w') : RxTo w r lv R u (.returned u) w' :=
  ⟨rfl, lv, h.still hs, hs.mono fun _ e => e.elim, fun _ hg => .inl hg⟩
/-- Behind the store of a new row of them. -/
theorem RxAt.fin {w w1 w3 : World} {r : Nat} {R R' : List Rw} {lv v3 u : Value} (h : RxAt w1 r R lv) (hw : Still w w1) (hs : Still w1 w3) (hv : Vec w3 6 v3 R'.length (wcells R')) (hvf : ∀ g, v3.ownBlock = some g → w1.heap.size ≤ g ∧ g < w3.heap.size) (ks : KS (rkeys R')) :
    RxTo w r lv R' u (.returned u) (w3.setCell ⟨r, 0, none⟩ v3) := by
  have hr := h.cells.lt
  have h0 := hw.size
  refine ⟨rfl, v3, ⟨(h.cells.only hs fun e => e).setCell 0 v3, hv.only (setCell_only w3 ⟨r, 0, none⟩ v3) fun g hg e => ?_, ks, fun e => ?_, fun g hg => ?_⟩, ?_, fun g hg => .inr ?_⟩
  · have h2 := hvf g hg
    have e' : g = r := e
    omega
  · have h2 := hvf r e
    omega
  · have h2 := hvf g hg
    rw [show (w3.setCell ⟨r, 0, none⟩ v3).heap.size = w3.heap.size by simp [World.setCell]]
    omega
  · exact Only.setCell (S := fun b => b = r) ((hw.mono fun _ e => e.elim : Only (fun b => b = r) w w1).trans (hs.mono fun _ e => e.elim)) (.inl rfl) v3
  · have h2 := hvf g hg
    omega

set_option maxRecDepth 100000 in
theorem info_w : (Tryz.prog.info? 71).map (fun i => (i.zero, i.size, i.bytes)) = some (some (.agg #[.string ⟨#[]⟩, .string ⟨#[]⟩, .int .i64 0, .int .i64 0, .int .i64 0, .int .i64 0]), 6, 64) := by kernel_rfl

set_option maxRecDepth 100000 in
/-- A part of the rows. -/
theorem mid_w {w : World} {vv : Value} {R : List Rw} {n lo hi : Nat} (h : Vec w 6 vv n (wcells R)) (h1 : lo ≤ hi) (h2 : hi ≤ n) :
    ∃ k', (∀ wz, (Instr.slice 27 vv (some (.int .i64 (lo : Int))) (some (.int .i64 (hi : Int))) none).run Tryz.prog wz = .ok k' wz) ∧ (lo = 0 → ∀ wz, (Instr.slice 27 vv none (some (.int .i64 (hi : Int))) none).run Tryz.prog wz = .ok k' wz) ∧
      (hi = n → ∀ wz, (Instr.slice 27 vv (some (.int .i64 (lo : Int))) none none).run Tryz.prog wz = .ok k' wz) ∧ ∀ w', Vec w' 6 vv n (wcells R) → Vec w' 6 k' (hi - lo) (wcells ((R.drop lo).take (hi - lo))) := by
  obtain ⟨k', r1, r2, r3, hv⟩ := h.part (size := 6) 27 Tryz.underlying27 (fun w => rfl) h1 h2
  refine ⟨k', r1, r2, r3, fun w' hw => ?_⟩
  have := hv w' hw
  rw [wcells_drop, wcells_take] at this
  exact this

def RfPost (w : World) (R : List Rw) (k : Key) (e : Ending) (w' : World) : Prop := e = .returned (.tuple #[.int .i64 (pos (rkeys R) k), .bool (hasK (rkeys R) k)]) ∧ Still w w'

theorem key_eq {a k : Key} (h : a ≠ k) : (a.toList == k.toList) = false := by
  rw [beq_eq_false_iff_ne]
  exact fun e => h (key_ext e)
theorem rkeys_length (R : List Rw) : (rkeys R).length = R.length := List.length_map _
theorem rkeys_get {R : List Rw} {i : Nat} {x : Rw} (h : R[i]? = some x) : (rkeys R)[i]? = some x.key := by
  unfold rkeys
  rw [List.getElem?_map, h]
  rfl

set_option maxHeartbeats 1000000 in
set_option maxRecDepth 100000 in
theorem rxfind_any (w : World) (r : Nat) (R : List Rw) (lv : Value) (k : Key) (h : RxAt w r R lv) (hl : R.length ≤ 100000) :
    Calls Tryz.prog 30 #[ptr r, .string k] w (RfPost w R k) := by
  have H := Lib.hid h
  obtain ⟨a, c, rfl⟩ := h.v.form'
  obtain ⟨n, hn⟩ : ∃ n, R.length = n := ⟨_, rfl⟩
  have HN := Lib.hid (And.intro hn hl)
  have c0 : w.cell? ⟨r, 0, none⟩ = some (.slice a R.length c) := h.cells.cell 0
  rw [hn] at c0
  have hp := pos_le (rkeys R) k
  rw [rkeys_length, hn] at hp
  obtain ⟨p, hpp⟩ : ∃ p, pos (rkeys R) k = p := ⟨_, rfl⟩
  rw [hpp] at hp
  have HP := Lib.hid hpp
  clear h hn hl hpp
  unfold ptr
  go_enter Tryz.func30, Tryz.ntmps30
  go_wp2_with fail
  go_loopw [6] (fun s wr => ∃ i : Nat, s = .int .i64 i ∧ i ≤ p ∧ wr = w) (fun s _ => n - (intOf s).toNat)
  case atStart => exact ⟨0, rfl, Nat.zero_le _, rfl⟩
  case round =>
    obtain ⟨i, rfl, hi, rfl⟩ := hrel
    by_cases hin : i < n
    · obtain ⟨g, o, c', he, hv⟩ := H.out.v.form (by have := HN.out; omega)
      injection he with he _ hec
      subst he hec
      obtain ⟨x, hx⟩ : ∃ x, R[i]? = some x := ⟨_, List.getElem?_eq_getElem (by rw [HN.out.1]; exact hin)⟩
      have c1 : wr.cell? ⟨g, o + i * 6, none⟩ = some (.string x.key) := by rw [hv.cell (i * 6) (by have := HN.out; omega)]; exact (wcells_get _ i x hx).1
      have hpl := pos_lt H.out.ks k (rkeys_get hx)
      rw [HP.out] at hpl
      have hh : i = p → hasK (rkeys R) k = decide (x.key = k) := fun e => hasK_of_get (by rw [HP.out, ← e]; exact rkeys_get hx)
      generalize x.key = xk at c1 hpl hh
      have d1 : decide ((i : Int) < (n : Int)) = true := by simp; omega
      have d2 : decide (i < n) = true := by simp; omega
      have d3 : (0 : Int) ≤ (i : Int) := by omega
      have d4 : (i : Int) < (n : Int) := by omega
      have u9 : IntKind.i64.wrap ((i : Int) + 1) = (i : Int) + 1 := IntWalk.i64_in _ (by have := HN.out; omega)
      by_cases hip : i < p
      · have e1 : Op.bytesLess xk.toList k.toList = true := hpl.2 hip
        clear hpl hx hv hh
        go_wp2_with fail
        go_roundw
        case rel => exact ⟨i + 1, by go_num, by omega, trivial⟩
        case measure => simp [intOf]; omega
      · have e1 : Op.bytesLess xk.toList k.toList = false := by
          cases hb : Op.bytesLess xk.toList k.toList with
          | false => rfl
          | true => exact absurd (hpl.1 hb) hip
        have hip' : i = p := by omega
        replace hh := hh hip'
        by_cases hxk : xk = k
        · have F := Lib.hid (show ∀ w', Still wr w' → RfPost wr R k (.returned (.tuple #[.int .i64 i, .bool true])) w' from fun w' hs => ⟨by rw [HP.out, hh, hip']; simp [hxk], hs⟩)
          subst hxk
          clear hpl hx hv hh hip' hip hi hp
          go_wp2_with fail
          go_quiet (fail)
          go_wp2_with fail
          go_ret2
          exact F.out _ ((Still.refl _).drewN _)
        · have F := Lib.hid (show ∀ w', Still wr w' → RfPost wr R k (.returned (.tuple #[.int .i64 i, .bool false])) w' from fun w' hs => ⟨by rw [HP.out, hh, hip']; simp [hxk], hs⟩)
          have e2 := key_eq hxk
          clear hpl hx hv hh hip' hip hi hp hxk
          go_wp2_with fail
          go_quiet (fail)
          go_wp2_with fail
          go_ret2
          exact F.out _ ((Still.refl _).drewN _)
    · have hip' : i = p := by omega
      have hin' : i = n := by omega
      have hh : hasK (rkeys R) k = false := hasK_false_end (by rw [HP.out, rkeys_length, HN.out.1]; omega)
      have F := Lib.hid (show ∀ w', Still wr w' → RfPost wr R k (.returned (.tuple #[.int .i64 i, .bool false])) w' from fun w' hs => ⟨by rw [HP.out, hh, hip'], hs⟩)
      have d1 : decide ((i : Int) < (n : Int)) = false := by simp; omega
      have d2 : decide (i < n) = false := by simp; omega
      clear hh hip' hin' hi hp
      go_wp2_with fail
      go_quiet (fail)
      go_wp2_with fail
      go_ret2
      exact F.out _ ((Still.refl _).drewN _)
end Go.Proofs.YtedfijmaeoednaaGreatDoor

namespace Go.Proofs.YtedfijmaeoednaaGreatDoor
open Go.RowKit Go.Wh Go.Proofs.YtedfijmaeoednaaGreatDoor.Tw

set_option maxHeartbeats 1000000 in
theorem rmay_any (key sec val : Key) (w : World) (h1 : key.size ≤ 1000) (h2 : sec.size ≤ 1000) (h3 : val.size ≤ 1000) :
    Calls Tryz.prog 35 #[rowV key sec val] w (MayPost w (mayB key sec val)) := by
  have FIN := Lib.hid (fun ob => show Still w (w.alloc ob) from (Still.refl w).alloc ob)
  unfold rowV
  by_cases a1 : 0 < key.size
  rotate_left
  · have HB := Lib.hid (show mayB key sec val = false by simp [mayB, a1])
    rw [HB.out]
    have b0 : decide ((1 : Int) ≤ (key.size : Int)) = false := decide_eq_false (by omega)
    have b0' : decide (1 ≤ key.size) = false := decide_eq_false (by omega)
    clear a1
    go_enter Tryz.func35, Tryz.ntmps35
    go_wp2_with fail
    go_ret
    exact ⟨rfl, FIN.out _⟩
  have b0 : decide ((1 : Int) ≤ (key.size : Int)) = true := decide_eq_true (by omega)
  have b0' : decide (1 ≤ key.size) = true := decide_eq_true (by omega)
  by_cases a2 : key.size ≤ 8
  rotate_left
  · have HB := Lib.hid (show mayB key sec val = false by simp [mayB, a2])
    rw [HB.out]
    have b1 : decide ((key.size : Int) ≤ 8) = false := by simp; omega
    clear a1 a2
    go_enter Tryz.func35, Tryz.ntmps35
    go_wp2_with fail
    go_ret
    exact ⟨rfl, FIN.out _⟩
  have b1 : decide ((key.size : Int) ≤ 8) = true := by simp; omega
  by_cases a3 : sec.size ≤ 6
  rotate_left
  · have HB := Lib.hid (show mayB key sec val = false by simp [mayB, a3])
    rw [HB.out]
    have b2 : decide ((sec.size : Int) ≤ 6) = false := by simp; omega
    clear a1 a2 a3
    go_enter Tryz.func35, Tryz.ntmps35
    go_wp2_with fail
    go_ret
    exact ⟨rfl, FIN.out _⟩
  have b2 : decide ((sec.size : Int) ≤ 6) = true := by simp; omega
  have HB := Lib.hid (show mayB key sec val = decide ((val.size : Int) ≤ 8) by simp [mayB, a1, a2, a3]; omega)
  rw [HB.out]
  clear a1 a2 a3
  go_enter Tryz.func35, Tryz.ntmps35
  go_wp2_with fail
  all_goals
    go_ret
    exact ⟨rfl, FIN.out _⟩

theorem ins_new {R : List Rw} {x : Rw} (h : hasK (rkeys R) x.key = false) : insR R x = R.take (pos (rkeys R) x.key) ++ x :: R.drop (pos (rkeys R) x.key) := by
  show R.take (pos (rkeys R) x.key) ++ x :: R.drop (if hasK (rkeys R) x.key then _ else _) = _
  rw [h]
  rfl

set_option maxHeartbeats 2000000 in
set_option maxRecDepth 100000 in
theorem rxput_any (w : World) (r : Nat) (R : List Rw) (lv : Value) (key sec val : Key) (v : Rid) (h : RxAt w r R lv) (hl : R.length ≤ 10000) (h1 : key.size ≤ 1000) (h2 : sec.size ≤ 1000) (h3 : val.size ≤ 1000) :
    Calls Tryz.prog 15 #[ptr r, rowV key sec val, ridV v] w (RxTo w r lv (putR R key sec val v) (.int .i64 (putE R key sec val))) := by
  obtain ⟨vp, vq⟩ := v
  have S0 := Lib.hid (fun A B => show Still w ((w.alloc A).alloc B) from ((Still.refl w).alloc A).alloc B)
  have D0 := Lib.hid (fun t1 B => show cellsAt ((w.alloc (.cells #[.string key, .string sec, .string val] t1)).alloc B) w.heap.size [.string key, .string sec, .string val] from (cellsAt_new w [.string key, .string sec, .string val] t1).alloc B)
  have D1 := Lib.hid (fun A t2 => show cellsAt ((w.alloc A).alloc (.cells #[.int .i64 vp, .int .i64 vq] t2)) (w.heap.size + 1) [.int .i64 vp, .int .i64 vq] from by
    have := cellsAt_new (w.alloc A) [.int .i64 vp, .int .i64 vq] t2
    simpa using this)
  have HF := Lib.hid (fun w' (hs : Still w w') => rxfind_any w' r R lv key (h.still hs) (by omega))
  have H := Lib.hid h
  obtain ⟨n, hn⟩ : ∃ n, R.length = n := ⟨_, rfl⟩
  have HN := Lib.hid (And.intro hn hl)
  have hp := pos_le (rkeys R) key
  rw [rkeys_length, hn] at hp
  obtain ⟨p, hpp⟩ : ∃ p, pos (rkeys R) key = p := ⟨_, rfl⟩
  rw [hpp] at hp
  obtain ⟨q, hq⟩ : ∃ q, hasK (rkeys R) key = q := ⟨_, rfl⟩
  obtain ⟨mb, hmb⟩ : ∃ mb, mayB key sec val = mb := ⟨_, rfl⟩
  have his : (getR R key).isSome = q := by rw [← hq]; exact getG_has key
  have HP0 : Hid (putR R key sec val (vp, vq) = (if mb then (if q then R else insR R ⟨key, sec, (vp, vq), (vp, vq)⟩) else R) ∧ putE R key sec val = (if mb then (if q then 8 else 0) else 1)) := Lib.hid ⟨by unfold putR; rw [hmb, his], by unfold putE; rw [hmb, his]⟩
  have HM := Lib.hid (fun w' => rmay_any key sec val w' h1 h2 h3)
  rw [hmb] at HM
  unfold RfPost at HF
  rw [hpp, hq] at HF
  have HP := Lib.hid (And.intro hpp (And.intro hq hp))
  clear h hn hl hpp hq hmb his h1 h2 h3
  obtain ⟨R', hR'⟩ : ∃ R', putR R key sec val (vp, vq) = R' := ⟨_, rfl⟩
  obtain ⟨er, her⟩ : ∃ er, putE R key sec val = er := ⟨_, rfl⟩
  rw [hR', her] at HP0 ⊢
  clear hR' her
  unfold rowV at HM
  unfold ptr at HF
  unfold rowV ridV ptr
  go_enter Tryz.func15, Tryz.ntmps15
  go_wp2_with fail
  have S1 := Lib.hid (S0.out (.cells #[.string key, .string sec, .string val] 39) (.cells #[.int .i64 vp, .int .i64 vq] 31))
  have D2 := Lib.hid (D0.out 39 (.cells #[.int .i64 vp, .int .i64 vq] 31))
  have D3 := Lib.hid (D1.out (.cells #[.string key, .string sec, .string val] 39) 31)
  clear S0 D0 D1
  have HB := Lib.hid (show r < w.heap.size from H.out.cells.lt)
  generalize (w.alloc _).alloc _ = W at *
  generalize w.heap.size + 1 = by_ at *
  generalize w.heap.size = bx at *
  refine (HM.out _).mono ?_
  rintro e W1 ⟨rfl, hs1⟩
  have S2 := Lib.hid (S1.out.trans hs1)
  have r0 : W1.cell? ⟨bx, 0, none⟩ = some (.string key) := hs1.cell (D2.out.cell 0)
  have r1 : W1.cell? ⟨bx, 1, none⟩ = some (.string sec) := hs1.cell (D2.out.cell 1)
  have v0 : W1.cell? ⟨by_, 0, none⟩ = some (.int .i64 vp) := hs1.cell (D3.out.cell 0)
  have v1 : W1.cell? ⟨by_, 1, none⟩ = some (.int .i64 vq) := hs1.cell (D3.out.cell 1)
  have HC := Lib.hid (fun w' (hst : Still W1 w') => show w'.cell? ⟨bx, 0, none⟩ = some (.string key) ∧ w'.cell? ⟨bx, 1, none⟩ = some (.string sec) ∧ w'.cell? ⟨by_, 0, none⟩ = some (.int .i64 vp) ∧ w'.cell? ⟨by_, 1, none⟩ = some (.int .i64 vq) from ⟨hst.cell r0, hst.cell r1, hst.cell v0, hst.cell v1⟩)
  clear S1 D2 D3 hs1 HM r1 v0 v1
  cases mb with
  | false =>
    have F0 := Lib.hid (show RxTo w r lv R' (.int .i64 er) (.returned (.int .i64 1)) W1 from by
      have e := HP0.out
      simp only [Bool.false_eq_true, if_false] at e
      rw [e.1, e.2]
      exact RxTo.same H.out S2.out)
    go_wp2_with fail
    go_ret
    exact F0.out
  | true =>
  go_wp2_with fail
  refine (HF.out _ S2.out).mono ?_
  rintro e w2 ⟨rfl, hs2⟩
  have S3 := Lib.hid (S2.out.trans hs2)
  have HC2 := Lib.hid (HC.out _ hs2)
  have HR1 := Lib.hid (H.out.still (S2.out.trans hs2))
  clear hs2 r0 HC S2 HF
  cases q with
  | true =>
    have F0 := Lib.hid (show RxTo w r lv R' (.int .i64 er) (.returned (.int .i64 8)) w2 from by
      have e := HP0.out
      simp only [if_true] at e
      rw [e.1, e.2]
      exact RxTo.same H.out S3.out)
    go_wp2_with fail
    go_ret
    exact F0.out
  | false =>
    have hR' : R' = insR R ⟨key, sec, (vp, vq), (vp, vq)⟩ ∧ er = 0 := by
      have e := HP0.out
      simp only [if_true, Bool.false_eq_true, if_false] at e
      exact e
    obtain ⟨hR1, rfl⟩ := hR'
    have HRR := Lib.hid hR1
    clear HP0 hR1
    have hk1 := HR1.out.v
    rw [HN.out.1] at hk1
    obtain ⟨k1, -, r1, -, v1⟩ := mid_w hk1 (Nat.zero_le p) hp
    obtain ⟨k2, -, -, r2, v2⟩ := mid_w hk1 hp (Nat.le_refl n)
    have r1' := r1 rfl
    have r2' := r2 rfl
    simp only [List.drop_zero, Nat.sub_zero] at v1
    rw [List.take_of_length_le (by rw [List.length_drop, HN.out.1]; exact Nat.le_refl _)] at v2
    have HV := Lib.hid (fun w' (hs : Still w2 w') => And.intro (v1 w' (hk1.only hs fun _ _ e => e)).reads (v2 w' (hk1.only hs fun _ _ e => e)).reads)
    have c0 : w2.cell? ⟨r, 0, none⟩ = some lv := HR1.out.cells.cell 0
    have SS := Lib.hid (fun w' (hs : Still w2 w') => show w'.cell? ⟨r, 0, none⟩ = some lv ∧ w'.frozen? ⟨r, 0, none⟩ = false ∧ w'.cell? ⟨bx, 0, none⟩ = some (.string key) ∧ w'.cell? ⟨bx, 1, none⟩ = some (.string sec) ∧ w'.cell? ⟨by_, 0, none⟩ = some (.int .i64 vp) ∧ w'.cell? ⟨by_, 1, none⟩ = some (.int .i64 vq) from
      ⟨hs.cell c0, (HR1.out.cells.only hs fun e => e).free 0, hs.cell HC2.out.1, hs.cell HC2.out.2.1, hs.cell HC2.out.2.2.1, hs.cell HC2.out.2.2.2⟩)
    obtain ⟨i0, hi0, hz0, hz1, hz2⟩ := info_parts info_w
    have HI := Lib.hid (And.intro hi0 (And.intro hz0 (And.intro hz1 hz2)))
    have hn10 : n ≤ 10000 := HN.out.2 |> fun h => by have := HN.out.1; omega
    clear hi0 hz0 hz1 hz2 hk1 r1 r2 v1 v2 c0
    go_wp2_with fail
    refine wp_region_D_drew (D := (fun i => [0, 2, 3, 4, 6, 9, 11, 18, 19, 20, 22, 25, 26, 27].contains i)) (S := (fun w' => w'.cell? ⟨r, 0, none⟩ = some lv ∧ w'.frozen? ⟨r, 0, none⟩ = false ∧ w'.cell? ⟨bx, 0, none⟩ = some (.string key) ∧ w'.cell? ⟨bx, 1, none⟩ = some (.string sec) ∧ w'.cell? ⟨by_, 0, none⟩ = some (.int .i64 vp) ∧ w'.cell? ⟨by_, 1, none⟩ = some (.int .i64 vq))) (by kernel_rfl) ?_ (fun hHeld => ?_)
    · exact SS.out _ (Still.refl _).drew
    (refine takeD (i := 0) (some 20) (v := ?_) rfl (by rfl) (by rfl) (by kernel_rfl) (by rfl) (fun _ _ _ h => h) ?_ ?_; rotate_left; (intro w; go_simp; try with_reducible rfl); try go_frame)
    (refine takeD (i := 2) (some 22) (v := ?_) rfl (by rfl) (by rfl) (by kernel_rfl) (by rfl) (fun _ _ _ h => h) ?_ ?_; rotate_left; (intro w; go_simp; try with_reducible rfl); try go_frame)
    (refine takeD (i := 3) (some 23) (v := ?_) rfl (by rfl) (by rfl) (by kernel_rfl) (by rfl) (fun _ _ _ h => h) ?_ ?_; rotate_left; (intro w; go_simp; try with_reducible rfl); try go_frame)
    (refine takeD (i := 4) (some 24) (v := ?_) rfl (by rfl) (by rfl) (by kernel_rfl) (by rfl) (fun _ _ _ h => h) ?_ ?_; rotate_left; (intro w; go_simp; try with_reducible rfl); try go_frame)
    (refine takeD (i := 6) (some 26) (v := ?_) rfl (by rfl) (by rfl) (by kernel_rfl) (by rfl) (fun _ _ _ h => h) ?_ ?_; rotate_left; (intro w; go_simp; try with_reducible rfl); try go_frame)
    (refine takeD (i := 9) (some 29) (v := ?_) rfl (by rfl) (by rfl) (by kernel_rfl) (by rfl) (fun _ _ _ h => h) ?_ ?_; rotate_left; (intro w; go_simp; try with_reducible rfl); try go_frame)
    (refine takeD (i := 11) (some 31) (v := ?_) rfl (by rfl) (by rfl) (by kernel_rfl) (by rfl) (fun _ _ _ h => h) ?_ ?_; rotate_left; (intro w; go_simp; try with_reducible rfl); try go_frame)
    (refine takeD (i := 18) (some 38) (v := ?_) rfl (by rfl) (by rfl) (by kernel_rfl) (by rfl) (fun _ _ _ h => h) ?_ ?_; rotate_left; (intro w; go_simp; try with_reducible rfl); try go_frame)
    (refine takeD (i := 19) (some 39) (v := ?_) rfl (by rfl) (by rfl) (by kernel_rfl) (by rfl) (fun _ _ _ h => h) ?_ ?_; rotate_left; (intro w; go_simp; try with_reducible rfl); try go_frame)
    (refine takeD (i := 20) (some 40) (v := ?_) rfl (by rfl) (by rfl) (by kernel_rfl) (by rfl) (fun _ _ _ h => h) ?_ ?_; rotate_left; (intro w; go_simp; try with_reducible rfl); try go_frame)
    (refine takeD (i := 22) (some 42) (v := ?_) rfl (by rfl) (by rfl) (by kernel_rfl) (by rfl) (fun _ _ _ h => h) ?_ ?_; rotate_left; (intro w; go_simp; try with_reducible rfl); try go_frame)
    (refine takeS (i := 5) (some 25) (v := ?_) rfl (by rfl) (by rfl) (by kernel_rfl) (by rfl) (fun _ _ _ h => h) (by assumption) ?_ ?_; rotate_left; (intro w hSw; (try dsimp only at hSw); go_simp; try with_reducible rfl); try go_frame)
    (refine takeS (i := 7) (some 27) (v := ?_) rfl (by rfl) (by rfl) (by kernel_rfl) (by rfl) (fun _ _ _ h => h) (by assumption) ?_ ?_; rotate_left; (intro w hSw; (try dsimp only at hSw); go_simp; try with_reducible rfl); try go_frame)
    (refine takeS (i := 10) (some 30) (v := ?_) rfl (by rfl) (by rfl) (by kernel_rfl) (by rfl) (fun _ _ _ h => h) (by assumption) ?_ ?_; rotate_left; (intro w hSw; (try dsimp only at hSw); go_simp; try with_reducible rfl); try go_frame)
    (refine takeS (i := 12) (some 32) (v := ?_) rfl (by rfl) (by rfl) (by kernel_rfl) (by rfl) (fun _ _ _ h => h) (by assumption) ?_ ?_; rotate_left; (intro w hSw; (try dsimp only at hSw); go_simp; try with_reducible rfl); try go_frame)
    (refine takeS (i := 13) (some 33) (v := ?_) rfl (by rfl) (by rfl) (by kernel_rfl) (by rfl) (fun _ _ _ h => h) (by assumption) ?_ ?_; rotate_left; (intro w hSw; (try dsimp only at hSw); go_simp; try with_reducible rfl); try go_frame)
    (refine takeS (i := 14) (some 34) (v := ?_) rfl (by rfl) (by rfl) (by kernel_rfl) (by rfl) (fun _ _ _ h => h) (by assumption) ?_ ?_; rotate_left; (intro w hSw; (try dsimp only at hSw); go_simp; try with_reducible rfl); try go_frame)
    (refine takeS (i := 15) (some 35) (v := ?_) rfl (by rfl) (by rfl) (by kernel_rfl) (by rfl) (fun _ _ _ h => h) (by assumption) ?_ ?_; rotate_left; (intro w hSw; (try dsimp only at hSw); go_simp; try with_reducible rfl); try go_frame)
    (refine takeS (i := 21) (some 41) (v := ?_) rfl (by rfl) (by rfl) (by kernel_rfl) (by rfl) (fun _ _ _ h => h) (by assumption) ?_ ?_; rotate_left; (intro w hSw; (try dsimp only at hSw); go_simp; try with_reducible rfl); try go_frame)
    (refine takeS (i := 23) (some 43) (v := ?_) rfl (by rfl) (by rfl) (by kernel_rfl) (by rfl) (fun _ _ _ h => h) (by assumption) ?_ ?_; rotate_left; (intro w hSw; (try dsimp only at hSw); go_simp; try with_reducible rfl); try go_frame)
    refine wpAnyD_merged (J := ChJ w2 (chain3 1 8 16 17 24 6 p (n - p) (wcells (R.take p)) [.string key, .string sec, .int .i64 vp, .int .i64 vq, .int .i64 vp, .int .i64 vq] (wcells (R.drop p)))) [(1, 21), (8, 28), (16, 36), (17, 37), (24, 44)] (fun i => if i = 8 then [1] else if i = 17 then [8, 16] else if i = 24 then [17] else []) #[true, true, true, true, true, true, true, true, true, true, true, true, true, true, true, true, true, true, true, true, true, true, true, true, true, false, false, false] rfl (by kernel_rfl) (by kernel_rfl) ?_ ?_ ?_ ?_
    · intro L xs w' hJ
      exact SS.out _ hJ.still
    · intro xs
      refine ChJ.start (Still.refl _).drew ?_
      intro j hj
      simp only [chain3, List.mem_cons, List.not_mem_nil, or_false] at hj
      rcases hj with rfl | rfl | rfl | rfl | rfl <;> kernel_rfl
    · intro q hq
      simp only [List.mem_cons, List.not_mem_nil, or_false] at hq
      rcases hq with rfl | rfl | rfl | rfl | rfl
      · refine StepM.of rfl (fun L xs w' hd hl hJ K hK => ?_)
        (unfold fillA; simp only [List.foldl]; try go_frame)
        go_simp
        refine hK.out _ _ (hJ.build (v := .slice (some ⟨w'.heap.size, 0, none⟩) 0 0) _ (Vec.none_ _ _ _ _) (fun g e => by cases e; rfl)) _ (by kernel_rfl)
      · refine ChJ.stepApp 1 rfl rfl (.tmp 21) (.tmp 27) 27 rfl rfl 71 i0 _ 6 64 Tryz.underlying27 HI.out.1 HI.out.2.1 HI.out.2.2.1 HI.out.2.2.2 rfl (by decide) p (wcells (R.take p)) rfl rfl (by decide) rfl rfl (by first | rfl | exact (Nat.zero_add _).symm) rfl (fun u hu => wcells_one _ u hu) (show 0 + p ≤ maxLen by simp only [maxLen]; omega) (show (0 + p) * 64 ≤ 140737488355328 by omega) ?_ ?_
        · intro xs
          (unfold fillA; simp only [List.foldl]; try go_frame)
          simp [Act.eval]
        · intro L xs w' hd hl hJ
          refine ⟨k1, ?_, (HV.out _ hJ.still).1⟩
          (unfold fillA; simp only [List.foldl]; try go_frame)
          simp [Act.eval]
      · refine StepM.of rfl (fun L xs w' hd hl hJ K hK => ?_)
        (unfold fillA; simp only [List.foldl]; try go_frame)
        go_simp
        refine hK.out _ _ (hJ.build (v := .slice (some ⟨w'.heap.size, 0, none⟩) 1 1) _ (vec_block (n := 1) (heap_alloc_new _ _) rfl (by simp only [maxLen]; omega)) (fun g e => by cases e; rfl)) _ (by kernel_rfl)
      · refine ChJ.stepApp 8 rfl rfl (.tmp 28) (.tmp 36) 27 rfl rfl 71 i0 _ 6 64 Tryz.underlying27 HI.out.1 HI.out.2.1 HI.out.2.2.1 HI.out.2.2.2 rfl (by decide) 1 [.string key, .string sec, .int .i64 vp, .int .i64 vq, .int .i64 vp, .int .i64 vq] rfl rfl (by decide) rfl rfl (by first | rfl | exact (Nat.zero_add _).symm) rfl (by intro u hu; simp only [List.mem_cons, List.not_mem_nil, or_false] at hu; rcases hu with rfl | rfl | rfl | rfl | rfl | rfl <;> rfl) (show p + 1 ≤ maxLen by simp only [maxLen]; omega) (show (p + 1) * 64 ≤ 140737488355328 by omega) ?_ ?_
        · intro xs
          (unfold fillA; simp only [List.foldl]; try go_frame)
          simp [Act.eval]
        · intro L xs w' hd hl hJ
          refine ⟨xs 16, ?_, (hJ.vec 16 (List.contains_iff_mem.1 rfl) (hd 16 (by simp)) hl).1.reads⟩
          (unfold fillA; simp only [List.foldl]; try go_frame)
          simp [Act.eval]
      · refine ChJ.stepApp 17 rfl rfl (.tmp 37) (.tmp 43) 27 rfl rfl 71 i0 _ 6 64 Tryz.underlying27 HI.out.1 HI.out.2.1 HI.out.2.2.1 HI.out.2.2.2 rfl (by decide) (n - p) (wcells (R.drop p)) rfl rfl (by decide) rfl rfl (by first | rfl | exact (Nat.zero_add _).symm) rfl (fun u hu => wcells_one _ u hu) (show p + 1 + (n - p) ≤ maxLen by simp only [maxLen]; omega) (show (p + 1 + (n - p)) * 64 ≤ 140737488355328 by omega) ?_ ?_
        · intro xs
          (unfold fillA; simp only [List.foldl]; try go_frame)
          simp [Act.eval]
        · intro L xs w' hd hl hJ
          refine ⟨k2, ?_, (HV.out _ hJ.still).2⟩
          (unfold fillA; simp only [List.foldl]; try go_frame)
          simp [Act.eval]
    · intro xs w' hJ
      (unfold fillA; simp only [List.foldl]; try go_frame)
      obtain ⟨hk3, hf3⟩ := hJ.vec 24 (List.contains_iff_mem.1 rfl) (by kernel_rfl) (by kernel_rfl)
      have hins := ins_new (R := R) (x := ⟨key, sec, (vp, vq), (vp, vq)⟩) HP.out.2.1
      have hpk : pos (rkeys R) (⟨key, sec, (vp, vq), (vp, vq)⟩ : Rw).key = p := HP.out.1
      rw [hpk] at hins
      have hk3' : Vec w' 6 (xs 24) R'.length (wcells R') := by
        rw [HRR.out, hins]
        have e1 : (R.take p ++ (⟨key, sec, (vp, vq), (vp, vq)⟩ : Rw) :: R.drop p).length = p + 1 + (n - p) := by
          rw [List.length_append, List.length_take, List.length_cons, List.length_drop, HN.out.1]
          have := HP.out.2.2
          omega
        have e2 : wcells (R.take p ++ (⟨key, sec, (vp, vq), (vp, vq)⟩ : Rw) :: R.drop p) = wcells (R.take p) ++ [.string key, .string sec, .int .i64 vp, .int .i64 vq, .int .i64 vp, .int .i64 vq] ++ wcells (R.drop p) := by
          rw [wcells_append, wcells_cons]
          simp
        rw [e1, e2]
        exact hk3
      have F := Lib.hid (HR1.out.fin (u := .int .i64 0) S3.out hJ.still hk3' hf3 (by rw [HRR.out]; exact KS_insG HR1.out.ks _))
      obtain ⟨s0, s1, -⟩ := SS.out _ hJ.still
      have hvf := hk3'.form'
      clear hk3 hf3 hk3' hJ hins hpk
      generalize xs 24 = k3 at *
      obtain ⟨ka, kc, rfl⟩ := hvf
      refine wpAnyD_ready (rs := [25]) (by kernel_rfl) (by simp) ?_
      refine ReadyD.last rfl (by rfl) (fun K hK => ?_) ?_
      go_simp
      refine hK.out _ _ ?_
      (clear hK K; try go_frame)
      refine wpAnyD_ready (rs := [26]) (by kernel_rfl) (by simp) ?_
      refine ReadyD.last rfl (by rfl) (fun K hK => ?_) ?_
      go_simp
      refine hK.out _ _ ?_
      (clear hK K; try go_frame)
      refine wpAnyD_ready (rs := [27]) (by kernel_rfl) (by simp) ?_
      refine ReadyD.last rfl (by rfl) (fun K hK => ?_) ?_
      go_simp
      refine hK.out _ _ ?_
      (clear hK K; try go_frame)
      refine wpAnyD_done (by kernel_rfl) ?_ _
      rotate_left
      exact ReadyD.nil
      exact ReadyD.nil
      exact ReadyD.nil
      go_wp2_with fail
      go_ret
      exact F.out
end Go.Proofs.YtedfijmaeoednaaGreatDoor

namespace Go.Proofs.YtedfijmaeoednaaGreatDoor
open Go.RowKit Go.Wh Go.Proofs.YtedfijmaeoednaaGreatDoor.Tw

theorem err_has (R : List Rw) (k : Key) : errOf (getR R k) = if hasK (rkeys R) k then .int .i64 0 else .int .i64 9 := by
  have h : (getR R k).isSome = hasK (rkeys R) k := getG_has k
  rw [← h]
  cases getR R k <;> rfl
theorem del_is {R : List Rw} {k : Key} (h : hasK (rkeys R) k = true) : delR R k = R.take (pos (rkeys R) k) ++ R.drop (pos (rkeys R) k + 1) := by
  show (if hasK (rkeys R) k then _ else _) = _
  rw [h]
  rfl
theorem del_no {R : List Rw} {k : Key} (h : hasK (rkeys R) k = false) : delR R k = R := by
  show (if hasK (rkeys R) k then _ else _) = _
  rw [h]
  rfl

set_option maxHeartbeats 2000000 in
set_option maxRecDepth 100000 in
theorem rxcut_any (w : World) (r : Nat) (R : List Rw) (lv : Value) (k : Key) (h : RxAt w r R lv) (hl : R.length ≤ 10000) :
    Calls Tryz.prog 9 #[ptr r, .string k] w (RxTo w r lv (delR R k) (errOf (getR R k))) := by
  have HF := Lib.hid (rxfind_any w r R lv k h (by omega))
  have H := Lib.hid h
  obtain ⟨n, hn⟩ : ∃ n, R.length = n := ⟨_, rfl⟩
  have HN := Lib.hid (And.intro hn hl)
  have hp := pos_le (rkeys R) k
  rw [rkeys_length, hn] at hp
  obtain ⟨p, hpp⟩ : ∃ p, pos (rkeys R) k = p := ⟨_, rfl⟩
  rw [hpp] at hp
  have herr := err_has R k
  generalize errOf (getR R k) = u at herr ⊢
  obtain ⟨q, hq⟩ : ∃ q, hasK (rkeys R) k = q := ⟨_, rfl⟩
  unfold RfPost at HF
  rw [hpp, hq] at HF
  have HP := Lib.hid (And.intro hpp (And.intro hq hp))
  rw [hq] at herr
  have HU := Lib.hid herr
  obtain ⟨R', hR'⟩ : ∃ R', delR R k = R' := ⟨_, rfl⟩
  have HRR := Lib.hid hR'
  rw [hR']
  clear h hn hl hpp hq hR' herr
  unfold ptr at HF ⊢
  go_enter Tryz.func9, Tryz.ntmps9
  go_wp2_with fail
  refine HF.out.mono ?_
  rintro e w1 ⟨rfl, hs1⟩
  have HS1 := Lib.hid hs1
  have HR1 := Lib.hid (H.out.still hs1)
  clear hs1 HF
  cases q with
  | false =>
    have hu0 : u = .int .i64 9 := HU.out
    subst hu0
    have F := Lib.hid (show RxTo w r lv R' (.int .i64 9) (.returned (.int .i64 9)) w1 from by
      rw [← HRR.out, del_no HP.out.2.1]
      exact RxTo.same H.out HS1.out)
    go_wp2_with fail
    go_ret
    exact F.out
  | true =>
    have hpn : p + 1 ≤ n := by
      have := hasK_lt HP.out.2.1
      rw [rkeys_length, HP.out.1, HN.out.1] at this
      exact this
    have hk1 := HR1.out.v
    rw [HN.out.1] at hk1
    obtain ⟨k1, -, r1, -, v1⟩ := mid_w hk1 (Nat.zero_le p) hp
    obtain ⟨k2, -, -, r2, v2⟩ := mid_w hk1 hpn (Nat.le_refl n)
    have r1' := r1 rfl
    have r2' := r2 rfl
    rw [show ((p + 1 : Nat) : Int) = (p : Int) + 1 from by omega] at r2'
    simp only [List.drop_zero, Nat.sub_zero] at v1
    rw [List.take_of_length_le (by rw [List.length_drop, HN.out.1]; exact Nat.le_refl _)] at v2
    have HV := Lib.hid (fun w' (hs : Still w1 w') => And.intro (v1 w' (hk1.only hs fun _ _ e => e)).reads (v2 w' (hk1.only hs fun _ _ e => e)).reads)
    have c0 : w1.cell? ⟨r, 0, none⟩ = some lv := HR1.out.cells.cell 0
    have SS := Lib.hid (fun w' (hs : Still w1 w') => show w'.cell? ⟨r, 0, none⟩ = some lv ∧ w'.frozen? ⟨r, 0, none⟩ = false from ⟨Still.cell hs c0, (HR1.out.cells.only hs fun e => e).free 0⟩)
    obtain ⟨i0, hi0, hz0, hz1, hz2⟩ := info_parts info_w
    have HI := Lib.hid (And.intro hi0 (And.intro hz0 (And.intro hz1 hz2)))
    have hn10 : n ≤ 10000 := by have := HN.out; omega
    have u9 : IntKind.i64.wrap ((p : Int) + 1) = (p : Int) + 1 := IntWalk.i64_in _ (by omega)
    have hu0 : u = .int .i64 0 := HU.out
    subst hu0
    clear hi0 hz0 hz1 hz2 hk1 r1 r2 v1 v2 c0
    go_wp2_with fail
    refine wp_region_D_drew (D := (fun i => [0, 2, 3, 4, 6, 9, 10, 11, 13, 14, 17, 18, 19].contains i)) (S := (fun w' => w'.cell? ⟨r, 0, none⟩ = some lv ∧ w'.frozen? ⟨r, 0, none⟩ = false)) (by kernel_rfl) ?_ (fun hHeld => ?_)
    · exact SS.out _ (Still.refl _).drew
    (refine takeD (i := 0) (some 15) (v := ?_) rfl (by rfl) (by rfl) (by kernel_rfl) (by rfl) (fun _ _ _ h => h) ?_ ?_; rotate_left; (intro w; go_simp; try with_reducible rfl); try go_frame)
    (refine takeD (i := 2) (some 17) (v := ?_) rfl (by rfl) (by rfl) (by kernel_rfl) (by rfl) (fun _ _ _ h => h) ?_ ?_; rotate_left; (intro w; go_simp; try with_reducible rfl); try go_frame)
    (refine takeD (i := 3) (some 18) (v := ?_) rfl (by rfl) (by rfl) (by kernel_rfl) (by rfl) (fun _ _ _ h => h) ?_ ?_; rotate_left; (intro w; go_simp; try with_reducible rfl); try go_frame)
    (refine takeD (i := 4) (some 19) (v := ?_) rfl (by rfl) (by rfl) (by kernel_rfl) (by rfl) (fun _ _ _ h => h) ?_ ?_; rotate_left; (intro w; go_simp; try with_reducible rfl); try go_frame)
    (refine takeD (i := 6) (some 21) (v := ?_) rfl (by rfl) (by rfl) (by kernel_rfl) (by rfl) (fun _ _ _ h => h) ?_ ?_; rotate_left; (intro w; go_simp; try with_reducible rfl); try go_frame)
    (refine takeD (i := 9) (some 24) (v := ?_) rfl (by rfl) (by rfl) (by kernel_rfl) (by rfl) (fun _ _ _ h => h) ?_ ?_; rotate_left; (intro w; go_simp; try with_reducible rfl); try go_frame)
    (refine takeD (i := 10) (some 25) (v := ?_) rfl (by rfl) (by rfl) (by kernel_rfl) (by rfl) (fun _ _ _ h => h) ?_ ?_; rotate_left; (intro w; go_simp; try with_reducible rfl); try go_frame)
    (refine takeD (i := 11) (some 26) (v := ?_) rfl (by rfl) (by rfl) (by kernel_rfl) (by rfl) (fun _ _ _ h => h) ?_ ?_; rotate_left; (intro w; go_simp; try with_reducible rfl); try go_frame)
    (refine takeD (i := 13) (some 28) (v := ?_) rfl (by rfl) (by rfl) (by kernel_rfl) (by rfl) (fun _ _ _ h => h) ?_ ?_; rotate_left; (intro w; go_simp; try with_reducible rfl); try go_frame)
    (refine takeD (i := 14) (some 29) (v := ?_) rfl (by rfl) (by rfl) (by kernel_rfl) (by rfl) (fun _ _ _ h => h) ?_ ?_; rotate_left; (intro w; go_simp; try with_reducible rfl); try go_frame)
    (refine takeS (i := 5) (some 20) (v := ?_) rfl (by rfl) (by rfl) (by kernel_rfl) (by rfl) (fun _ _ _ h => h) (by assumption) ?_ ?_; rotate_left; (intro w hSw; (try dsimp only at hSw); go_simp; try with_reducible rfl); try go_frame)
    (refine takeS (i := 7) (some 22) (v := ?_) rfl (by rfl) (by rfl) (by kernel_rfl) (by rfl) (fun _ _ _ h => h) (by assumption) ?_ ?_; rotate_left; (intro w hSw; (try dsimp only at hSw); go_simp; try with_reducible rfl); try go_frame)
    (refine takeS (i := 12) (some 27) (v := ?_) rfl (by rfl) (by rfl) (by kernel_rfl) (by rfl) (fun _ _ _ h => h) (by assumption) ?_ ?_; rotate_left; (intro w hSw; (try dsimp only at hSw); go_simp; try with_reducible rfl); try go_frame)
    (refine takeS (i := 15) (some 30) (v := ?_) rfl (by rfl) (by rfl) (by kernel_rfl) (by rfl) (fun _ _ _ h => h) (by assumption) ?_ ?_; rotate_left; (intro w hSw; (try dsimp only at hSw); go_simp; try with_reducible rfl); try go_frame)
    refine wpAnyD_merged (J := ChJ w1 (chain2 1 8 16 6 p (n - (p + 1)) (wcells (R.take p)) (wcells (R.drop (p + 1))))) [(1, 16), (8, 23), (16, 31)] (fun i => if i = 8 then [1] else if i = 16 then [8] else []) #[true, true, true, true, true, true, true, true, true, true, true, true, true, true, true, true, true, false, false, false] rfl (by kernel_rfl) (by kernel_rfl) ?_ ?_ ?_ ?_
    · intro L xs w' hJ
      exact SS.out _ hJ.still
    · intro xs
      refine ChJ.start (Still.refl _).drew ?_
      intro j hj
      simp only [chain2, List.mem_cons, List.not_mem_nil, or_false] at hj
      rcases hj with rfl | rfl | rfl <;> kernel_rfl
    · intro q hq
      simp only [List.mem_cons, List.not_mem_nil, or_false] at hq
      rcases hq with rfl | rfl | rfl
      · refine StepM.of rfl (fun L xs w' hd hl hJ K hK => ?_)
        (unfold fillA; simp only [List.foldl]; try go_frame)
        go_simp
        refine hK.out _ _ (hJ.build (v := .slice (some ⟨w'.heap.size, 0, none⟩) 0 0) _ (Vec.none_ _ _ _ _) (fun g e => by cases e; rfl)) _ (by kernel_rfl)
      · refine ChJ.stepApp 1 rfl rfl (.tmp 16) (.tmp 22) 27 rfl rfl 71 i0 _ 6 64 Tryz.underlying27 HI.out.1 HI.out.2.1 HI.out.2.2.1 HI.out.2.2.2 rfl (by decide) p (wcells (R.take p)) rfl rfl (by decide) rfl rfl (by first | rfl | exact (Nat.zero_add _).symm) rfl (fun u hu => wcells_one _ u hu) (show 0 + p ≤ maxLen by simp only [maxLen]; omega) (show (0 + p) * 64 ≤ 140737488355328 by omega) ?_ ?_
        · intro xs
          (unfold fillA; simp only [List.foldl]; try go_frame)
          simp [Act.eval]
        · intro L xs w' hd hl hJ
          refine ⟨k1, ?_, (HV.out _ hJ.still).1⟩
          (unfold fillA; simp only [List.foldl]; try go_frame)
          simp [Act.eval]
      · refine ChJ.stepApp 8 rfl rfl (.tmp 23) (.tmp 30) 27 rfl rfl 71 i0 _ 6 64 Tryz.underlying27 HI.out.1 HI.out.2.1 HI.out.2.2.1 HI.out.2.2.2 rfl (by decide) (n - (p + 1)) (wcells (R.drop (p + 1))) rfl rfl (by decide) rfl rfl (by first | rfl | exact (Nat.zero_add _).symm) rfl (fun u hu => wcells_one _ u hu) (show p + (n - (p + 1)) ≤ maxLen by simp only [maxLen]; omega) (show (p + (n - (p + 1))) * 64 ≤ 140737488355328 by omega) ?_ ?_
        · intro xs
          (unfold fillA; simp only [List.foldl]; try go_frame)
          simp [Act.eval]
        · intro L xs w' hd hl hJ
          refine ⟨k2, ?_, (HV.out _ hJ.still).2⟩
          (unfold fillA; simp only [List.foldl]; try go_frame)
          simp [Act.eval]
    · intro xs w' hJ
      (unfold fillA; simp only [List.foldl]; try go_frame)
      obtain ⟨hk3, hf3⟩ := hJ.vec 16 (List.contains_iff_mem.1 rfl) (by kernel_rfl) (by kernel_rfl)
      have hdel := del_is (R := R) (k := k) HP.out.2.1
      rw [HP.out.1] at hdel
      have hk3' : Vec w' 6 (xs 16) R'.length (wcells R') := by
        rw [← HRR.out, hdel]
        have e1 : (R.take p ++ R.drop (p + 1)).length = p + (n - (p + 1)) := by
          rw [List.length_append, List.length_take, List.length_drop, HN.out.1]
          omega
        rw [e1, wcells_append]
        exact hk3
      have F := Lib.hid (HR1.out.fin (u := .int .i64 0) HS1.out hJ.still hk3' hf3 (by rw [← HRR.out]; exact KS_delG HR1.out.ks _))
      obtain ⟨s0, s1⟩ := SS.out _ hJ.still
      have hvf := hk3'.form'
      clear hk3 hf3 hk3' hJ hdel
      generalize xs 16 = k3 at *
      obtain ⟨ka, kc, rfl⟩ := hvf
      refine wpAnyD_ready (rs := [17]) (by kernel_rfl) (by simp) ?_
      refine ReadyD.last rfl (by rfl) (fun K hK => ?_) ?_
      go_simp
      refine hK.out _ _ ?_
      (clear hK K; try go_frame)
      refine wpAnyD_ready (rs := [18]) (by kernel_rfl) (by simp) ?_
      refine ReadyD.last rfl (by rfl) (fun K hK => ?_) ?_
      go_simp
      refine hK.out _ _ ?_
      (clear hK K; try go_frame)
      refine wpAnyD_ready (rs := [19]) (by kernel_rfl) (by simp) ?_
      refine ReadyD.last rfl (by rfl) (fun K hK => ?_) ?_
      go_simp
      refine hK.out _ _ ?_
      (clear hK K; try go_frame)
      refine wpAnyD_done (by kernel_rfl) ?_ _
      rotate_left
      exact ReadyD.nil
      exact ReadyD.nil
      exact ReadyD.nil
      go_wp2_with fail
      go_ret
      exact F.out
end Go.Proofs.YtedfijmaeoednaaGreatDoor

namespace Go.Proofs.YtedfijmaeoednaaGreatDoor
open Go.RowKit Go.Wh Go.Proofs.YtedfijmaeoednaaGreatDoor.Tw

theorem get_set {R : List Rw} {k : Key} (h : hasK (rkeys R) k = true) : ∃ x, R[pos (rkeys R) k]? = some x ∧ x.key = k ∧ getR R k = some x ∧ ∀ y : Rw, y.key = k → insR R y = R.set (pos (rkeys R) k) y := by
  have hlt := hasK_lt h
  rw [rkeys_length] at hlt
  have hg : (rkeys R)[pos (rkeys R) k]? = some k := by simpa [hasK] using h
  refine ⟨R[pos (rkeys R) k], List.getElem?_eq_getElem hlt, ?_, ?_, fun y hy => ?_⟩
  · rw [rkeys_get (List.getElem?_eq_getElem hlt)] at hg
    exact Option.some.inj hg
  · show (if hasK (rkeys R) k then _ else _) = _
    rw [h]
    exact List.getElem?_eq_getElem hlt
  · show R.take (pos (rkeys R) y.key) ++ y :: R.drop (if hasK (rkeys R) y.key then _ else _) = _
    rw [hy, h, List.set_eq_take_append_cons_drop, if_pos hlt]
    rfl

theorem rkeys_set {R : List Rw} {p : Nat} {x y : Rw} (h : R[p]? = some x) (hk : y.key = x.key) : rkeys (R.set p y) = rkeys R := by
  unfold rkeys
  rw [List.map_set, hk]
  apply List.ext_getElem?
  intro i
  rw [List.getElem?_set]
  by_cases e : p = i
  · subst e
    rw [if_pos rfl, List.getElem?_map, h]
    have := (List.getElem?_eq_some_iff.1 h).1
    simp [this]
  · rw [if_neg e]

set_option maxHeartbeats 1000000 in
set_option maxRecDepth 100000 in
theorem rxget_any (w : World) (r : Nat) (R : List Rw) (lv : Value) (k : Key) (h : RxAt w r R lv) (hl : R.length ≤ 10000) :
    Calls Tryz.prog 17 #[ptr r, .string k] w (FindPost w (getR R k)) := by
  have HF := Lib.hid (fun w' (hs : Still w w') => rxfind_any w' r R lv k (h.still hs) (by omega))
  have H := Lib.hid h
  obtain ⟨n, hn⟩ : ∃ n, R.length = n := ⟨_, rfl⟩
  have HN := Lib.hid (And.intro hn hl)
  obtain ⟨p, hpp⟩ : ∃ p, pos (rkeys R) k = p := ⟨_, rfl⟩
  obtain ⟨q, hq⟩ : ∃ q, hasK (rkeys R) k = q := ⟨_, rfl⟩
  unfold RfPost at HF
  rw [hpp, hq] at HF
  have HP := Lib.hid (And.intro hpp hq)
  clear h hn hl hpp hq
  unfold ptr at HF ⊢
  go_enter Tryz.func17, Tryz.ntmps17
  go_wp2_with fail
  refine (HF.out _ ((Still.refl _).alloc _)).mono ?_
  rintro e w1 ⟨rfl, hs1⟩
  have hs01 := ((Still.refl w).alloc (.cells #[.int .i64 0, .int .i64 0] 31)).trans hs1
  have hbx := cellsAt.only (cellsAt_new w [.int .i64 0, .int .i64 0] 31) hs1 (fun e => e)
  have HS1 := Lib.hid hs01
  have HR1 := Lib.hid (H.out.still hs01)
  obtain ⟨bx, hb⟩ : ∃ bx, w.heap.size = bx := ⟨_, rfl⟩
  rw [hb] at hbx
  rw [hb]
  have q0 : w1.cell? ⟨bx, 0, none⟩ = some (.int .i64 0) := hbx.cell 0
  have q1 : w1.cell? ⟨bx, 1, none⟩ = some (.int .i64 0) := hbx.cell 1
  have q2 : w1.frozen? ⟨bx, 0, none⟩ = false := hbx.free 0
  have q3 : w1.frozen? ⟨bx, 1, none⟩ = false := hbx.free 1
  have HFIN := Lib.hid (fun (a b : Value) => show Still w ((w1.setCell ⟨bx, 0, none⟩ a).setCell ⟨bx, 1, none⟩ b) from (Only.setCell hs01 (p := ⟨bx, 0, none⟩) (.inr (by rw [hb]; exact Nat.le_refl _)) a).setCell (p := ⟨bx, 1, none⟩) (.inr (by rw [hb]; exact Nat.le_refl _)) b)
  have z1 : ∀ a b : Value, ((w1.setCell ⟨bx, 0, none⟩ a).setCell ⟨bx, 1, none⟩ b).cell? ⟨bx, 0, none⟩ = some a := fun a b => ((hbx.setCell 0 a).setCell 1 b).cell 0
  have z2 : ∀ a b : Value, ((w1.setCell ⟨bx, 0, none⟩ a).setCell ⟨bx, 1, none⟩ b).cell? ⟨bx, 1, none⟩ = some b := fun a b => ((hbx.setCell 0 a).setCell 1 b).cell 1
  have HZ := Lib.hid (And.intro z1 z2)
  clear hs1 hs01 HF hbx hb z1 z2
  cases q with
  | false =>
    have hg : getR R k = none := by
      show (if hasK (rkeys R) k then _ else _) = _
      rw [HP.out.2]
      rfl
    have F := Lib.hid (show FindPost w (getR R k) (.returned (.tuple #[.agg #[.int .i64 0, .int .i64 0], .int .i64 9])) ((w1.setCell ⟨bx, 0, none⟩ (.int .i64 0)).setCell ⟨bx, 1, none⟩ (.int .i64 0)) from ⟨by rw [hg]; rfl, HFIN.out _ _⟩)
    clear hg
    go_wp2_with fail
    (try simp only [Exit.inBlock, Exit.then])
    refine bodyPost_ret (v := .tuple #[.agg #[.int .i64 0, .int .i64 0], .int .i64 9]) ?_ rfl F.out
    have y1 := HZ.out.1
    have y2 := HZ.out.2
    simp [results, Tryz.results17, go_sem, y1, y2]
  | true =>
    obtain ⟨x, hx, hxk, hgx, -⟩ := get_set HP.out.2
    rw [HP.out.1] at hx
    have hlt : p < n := by
      have := (List.getElem?_eq_some_iff.1 hx).1
      rw [HN.out.1] at this
      exact this
    obtain ⟨g, o, c, rfl, hv⟩ := HR1.out.v.form (by rw [HN.out.1]; omega)
    have c1 : w1.cell? ⟨r, 0, none⟩ = some (.slice (some ⟨g, o, none⟩) R.length c) := HR1.out.cells.cell 0
    rw [HN.out.1] at c1 hv
    have hw := wcells_get _ p x hx
    have e1 : w1.cell? ⟨g, o + p * 6 + 2, none⟩ = some (.int .i64 x.f.1) := by rw [Nat.add_assoc, hv.cell (p * 6 + 2) (by omega)]; exact hw.2.2.1
    have e2 : w1.cell? ⟨g, o + p * 6 + 2 + 1, none⟩ = some (.int .i64 x.f.2) := by rw [Nat.add_assoc, Nat.add_assoc, hv.cell (p * 6 + (2 + 1)) (by omega)]; exact hw.2.2.2.1
    have e2' : w1.cell? ⟨g, o + p * 6 + 3, none⟩ = some (.int .i64 x.f.2) := e2
    have p1 : (0 : Int) ≤ (p : Int) := by omega
    have p2 : (p : Int) < (n : Int) := by omega
    have F := Lib.hid (show FindPost w (getR R k) (.returned (.tuple #[.agg #[.int .i64 x.f.1, .int .i64 x.f.2], .int .i64 0])) ((w1.setCell ⟨bx, 0, none⟩ (.int .i64 x.f.1)).setCell ⟨bx, 1, none⟩ (.int .i64 x.f.2)) from ⟨by rw [hgx]; rfl, HFIN.out _ _⟩)
    clear hgx hv hx hw hxk
    generalize x.f.1 = xa at *
    generalize x.f.2 = xb at *
    go_wp2_with fail
    (try simp only [Exit.inBlock, Exit.then])
    refine bodyPost_ret (v := .tuple #[.agg #[.int .i64 xa, .int .i64 xb], .int .i64 0]) ?_ rfl F.out
    have y1 := HZ.out.1
    have y2 := HZ.out.2
    simp [results, Tryz.results17, go_sem, y1, y2]

theorem rcopied {w1 w' : World} {ob : Obj} {v' : Value} (ho : Only (fun k => some w1.heap.size = some k) (w1.alloc ob) w') (hb : v'.ownBlock = some w1.heap.size ∨ ∃ g, v'.ownBlock = some g ∧ (w1.alloc ob).heap.size ≤ g ∧ g < w'.heap.size) :
    Still w1 w' ∧ ∀ g, v'.ownBlock = some g → w1.heap.size ≤ g ∧ g < w'.heap.size := by
  refine ⟨((Still.refl w1).alloc ob).andThen ho fun i hi e => ?_, fun g hg => ?_⟩
  · injection e with e
    omega
  · have hz : (w1.alloc ob).heap.size = w1.heap.size + 1 := by simp
    have hz2 := ho.size
    rcases hb with e | ⟨g', e, h1, h2⟩
    · rw [e] at hg
      injection hg with hg
      omega
    · rw [e] at hg
      injection hg with hg
      omega

/-- Behind the copy of all rows, and a store into one of them. -/
theorem RxAt.turned {w w1 w' : World} {r gv ov vc p j : Nat} {R R' : List Rw} {lv u a b : Value} (h : RxAt w1 r R lv) (hw : Still w w1) (hs : Still w1 w') (hva : VecAt w' 6 gv ov R.length vc (wcells R)) (hgv : w1.heap.size ≤ gv ∧ gv < w'.heap.size)
    (hp : p < R.length) (hj : j + 1 < 6) (hR : wcells R' = ((wcells R).set (p * 6 + j) a).set (p * 6 + j + 1) b) (hl : R'.length = R.length) (ks : KS (rkeys R')) :
    RxTo w r lv R' u (.returned u) (((w'.setCell ⟨r, 0, none⟩ (.slice (some ⟨gv, ov, none⟩) R.length vc)).setCell ⟨gv, ov + p * 6 + j, none⟩ a).setCell ⟨gv, ov + p * 6 + j + 1, none⟩ b) := by
  have hrl := h.cells.lt
  have hgr : gv ≠ r := by omega
  obtain ⟨wz, hz⟩ : ∃ wz, wz = w'.setCell ⟨r, 0, none⟩ (.slice (some ⟨gv, ov, none⟩) R.length vc) := ⟨_, rfl⟩
  rw [← hz]
  have o1 : Only (fun b => b = r) w1 wz := by rw [hz]; exact Only.setCell (S := fun b => b = r) (hs.mono fun _ e => e.elim) (.inl rfl) _
  have o2 := Only.setCell (S := fun b => b = r) (Only.setCell (S := fun b => b = r) o1 (p := ⟨gv, ov + p * 6 + j, none⟩) (.inr hgv.1) a) (p := ⟨gv, ov + p * 6 + j + 1, none⟩) (.inr hgv.1) b
  have cz : cellsAt wz r [.slice (some ⟨gv, ov, none⟩) R.length vc] := by rw [hz]; exact (h.cells.only hs fun e => e).setCell 0 _
  have vz : VecAt wz 6 gv ov R.length vc (wcells R) := by
    have := Vec.only (S := fun b => b = r) (.inr ⟨gv, ov, vc, rfl, hva⟩ : Vec w' 6 (.slice (some ⟨gv, ov, none⟩) R.length vc) R.length (wcells R)) (setCell_only w' ⟨r, 0, none⟩ (.slice (some ⟨gv, ov, none⟩) R.length vc)) fun g hg e => hgr ((Option.some.inj hg).trans e)
    rw [hz]
    exact this.at
  have v2 := (vz.set (p * 6 + j) (by omega) a).set (p * 6 + j + 1) (by omega) b
  rw [← hR, show ov + (p * 6 + j) = ov + p * 6 + j by omega, show ov + (p * 6 + j + 1) = ov + p * 6 + j + 1 by omega] at v2
  refine ⟨rfl, .slice (some ⟨gv, ov, none⟩) R.length vc, ⟨((cz.setOther (p := ⟨gv, ov + p * 6 + j, none⟩) (Ne.symm hgr) _).setOther (p := ⟨gv, ov + p * 6 + j + 1, none⟩) (Ne.symm hgr) _), ?_, ks, fun e => hgr (Option.some.inj e), fun g hg => ?_⟩, ?_, fun g hg => .inr ?_⟩
  · rw [hl]
    exact .inr ⟨gv, ov, vc, rfl, v2⟩
  · have h1 : gv = g := Option.some.inj hg
    rw [hz]
    simp only [World.setCell, Array.size_modify]
    omega
  · exact (hw.mono fun _ e => e.elim).trans o2
  · have h1 : gv = g := Option.some.inj hg
    have := hw.size
    omega

set_option maxHeartbeats 2000000 in
set_option maxRecDepth 100000 in
theorem rxmove_any (w : World) (r : Nat) (R : List Rw) (lv : Value) (k : Key) (v : Rid) (h : RxAt w r R lv) (hl : R.length ≤ 10000) :
    Calls Tryz.prog 11 #[ptr r, .string k, ridV v] w (RxTo w r lv (moveR R k v) (errOf (getR R k))) := by
  have HF := Lib.hid (fun w' (hs : Still w w') => rxfind_any w' r R lv k (h.still hs) (by omega))
  obtain ⟨vp, vq⟩ := v
  have H := Lib.hid h
  obtain ⟨n, hn⟩ : ∃ n, R.length = n := ⟨_, rfl⟩
  have HN := Lib.hid (And.intro hn hl)
  obtain ⟨p, hpp⟩ : ∃ p, pos (rkeys R) k = p := ⟨_, rfl⟩
  have herr := err_has R k
  generalize errOf (getR R k) = u at herr ⊢
  obtain ⟨q, hq⟩ : ∃ q, hasK (rkeys R) k = q := ⟨_, rfl⟩
  unfold RfPost at HF
  rw [hpp, hq] at HF
  have HP := Lib.hid (And.intro hpp hq)
  rw [hq] at herr
  have HU := Lib.hid herr
  obtain ⟨R', hR'⟩ : ∃ R', moveR R k (vp, vq) = R' := ⟨_, rfl⟩
  have HRR := Lib.hid hR'
  rw [hR']
  clear h hn hl hpp hq hR' herr
  unfold ptr at HF ⊢
  unfold ridV
  dsimp only
  go_enter Tryz.func11, Tryz.ntmps11
  go_wp2_with fail
  refine (HF.out _ ((Still.refl _).alloc _)).mono ?_
  rintro e w1 ⟨rfl, hs1⟩
  have hs01 := ((Still.refl w).alloc (.cells #[.int .i64 vp, .int .i64 vq] 31)).trans hs1
  have HS1 := Lib.hid hs01
  have HR1 := Lib.hid (H.out.still hs01)
  have bx0 : w1.cell? ⟨w.heap.size, 0, none⟩ = some (.int .i64 vp) := Still.cell hs1 ((cellsAt_new w [.int .i64 vp, .int .i64 vq] 31).cell 0)
  have bx1 : w1.cell? ⟨w.heap.size, 1, none⟩ = some (.int .i64 vq) := Still.cell hs1 ((cellsAt_new w [.int .i64 vp, .int .i64 vq] 31).cell 1)
  obtain ⟨bx, hbx⟩ : ∃ bx, w.heap.size = bx := ⟨_, rfl⟩
  rw [hbx] at bx0 bx1
  have HBX := Lib.hid (And.intro hbx (And.intro bx0 bx1))
  rw [hbx]
  clear hs1 hs01 HF bx0 bx1 hbx
  cases q with
  | false =>
    have hg : getR R k = none := by
      show (if hasK (rkeys R) k then _ else _) = _
      rw [HP.out.2]
      rfl
    have hu0 : u = .int .i64 9 := HU.out
    subst hu0
    have F := Lib.hid (show RxTo w r lv R' (.int .i64 9) (.returned (.int .i64 9)) w1 from by
      rw [← HRR.out]
      unfold moveR
      rw [hg]
      exact RxTo.same H.out HS1.out)
    clear hg
    go_wp2_with fail
    go_ret
    exact F.out
  | true =>
    obtain ⟨x, hx, hxk, hgx, hset⟩ := get_set HP.out.2
    rw [HP.out.1] at hx hset
    have hpn : p < n := by
      have := (List.getElem?_eq_some_iff.1 hx).1
      rw [HN.out.1] at this
      exact this
    have hR2 : R' = R.set p { x with f := (vp, vq) } := by
      rw [← HRR.out]
      unfold moveR
      rw [hgx]
      exact hset { x with f := (vp, vq) } hxk
    have HX := Lib.hid (And.intro hx hR2)
    have c0 : w1.cell? ⟨r, 0, none⟩ = some lv := HR1.out.cells.cell 0
    have f0 := HR1.out.cells.free 0
    have hrd := HR1.out.v.reads
    rw [HN.out.1] at hrd
    obtain ⟨i1, hi1, hy0, hy1, hy2⟩ := info_parts info_w
    have HJ := Lib.hid (And.intro hi1 (And.intro hy0 (And.intro hy1 hy2)))
    have hcA : ∀ ob, (w1.alloc ob).cell? ⟨r, 0, none⟩ = some lv := fun ob => Still.cell ((Still.refl w1).alloc ob) c0
    have HRD := Lib.hid (fun ob => hrd.belowAll ((Below.refl w1.heap.size w1).alloc (Nat.le_refl _) ob))
    have hu0 : u = .int .i64 0 := HU.out
    subst hu0
    clear hrd hi1 hy0 hy1 hy2 hx hxk hgx hset hR2
    go_wp2_with (at_builtin; refine wpList_append_vec rfl _ _ 27 rfl 71 i1 _ 6 64 Tryz.underlying27 HJ.out.1 HJ.out.2.1 HJ.out.2.2.1 HJ.out.2.2.2 rfl (by decide) _ 0 [] rfl (Vec.none_ _ _ _ _) _ n (wcells R) rfl (HRD.out _) (fun u hu => wcells_one _ u hu) (by simp only [maxLen]; have := HN.out; omega) (by have := HN.out; omega) ?_; intro v' w' hv' ho' hb'; rw [Nat.zero_add, List.nil_append] at hv'; have hst := rcopied ho' hb'; clear ho' hb'; have c0' := Still.cell hst.1 c0; have f0' := (HR1.out.cells.only hst.1 fun e => e).free 0; have HVP := Lib.hid (And.intro hv' hst); obtain ⟨va, vc, rfl⟩ := hv'.form'; clear hv' hst)
    obtain ⟨gv, ov, cv, he, hva⟩ := HVP.out.1.form (by omega)
    injection he with he _ hec
    subst he hec
    have hgv := HVP.out.2.2 gv rfl
    have hrl := HR1.out.cells.lt
    have hgr : gv ≠ r := by omega
    have hbl : bx < w1.heap.size := World.block_lt_of_cell? _ _ HBX.out.2.1
    have hgb : gv ≠ bx := by omega
    have hbr : bx ≠ r := by have := HBX.out.1; have := H.out.cells.lt; omega
    obtain ⟨wz, hwz⟩ : ∃ wz, w'.setCell ⟨r, 0, none⟩ (.slice (some ⟨gv, ov, none⟩) n vc) = wz := ⟨_, rfl⟩
    have e1 : wz.cell? ⟨r, 0, none⟩ = some (.slice (some ⟨gv, ov, none⟩) n vc) := by rw [← hwz]; exact World.cell?_setCell_same _ _ _ c0'
    have e2 : ∀ j, j < n * 6 → wz.cell? ⟨gv, ov + j, none⟩ = (wcells R)[j]? ∧ wz.frozen? ⟨gv, ov + j, none⟩ = false := fun j hj => by
      rw [← hwz, World.frozen?_setCell, World.cell?_setCell_other _ _ _ _ fun e => hgr (congrArg Addr.block e).symm]
      exact ⟨hva.cell j hj, hva.free j hj⟩
    have e3 : wz.cell? ⟨bx, 0, none⟩ = some (.int .i64 vp) := by rw [← hwz, World.cell?_setCell_other _ _ _ _ fun e => hbr (congrArg Addr.block e).symm]; exact Still.cell HVP.out.2.1 HBX.out.2.1
    have e4 : wz.cell? ⟨bx, 1, none⟩ = some (.int .i64 vq) := by rw [← hwz, World.cell?_setCell_other _ _ _ _ fun e => hbr (congrArg Addr.block e).symm]; exact Still.cell HVP.out.2.1 HBX.out.2.2
    have hw := wcells_get _ p x HX.out.1
    have e5 : wz.cell? ⟨gv, ov + p * 6 + 2, none⟩ = some (.int .i64 x.f.1) := by rw [Nat.add_assoc, (e2 (p * 6 + 2) (by omega)).1]; exact hw.2.2.1
    have e6 : wz.cell? ⟨gv, ov + p * 6 + 2 + 1, none⟩ = some (.int .i64 x.f.2) := by rw [Nat.add_assoc, Nat.add_assoc, (e2 (p * 6 + (2 + 1)) (by omega)).1]; exact hw.2.2.2.1
    have e6' : wz.cell? ⟨gv, ov + p * 6 + 3, none⟩ = some (.int .i64 x.f.2) := e6
    have e7 : wz.frozen? ⟨gv, ov + p * 6 + 2, none⟩ = false := by rw [Nat.add_assoc]; exact (e2 (p * 6 + 2) (by omega)).2
    have e8 : wz.frozen? ⟨gv, ov + p * 6 + 2 + 1, none⟩ = false := by rw [Nat.add_assoc, Nat.add_assoc]; exact (e2 (p * 6 + (2 + 1)) (by omega)).2
    have e8' : wz.frozen? ⟨gv, ov + p * 6 + 3, none⟩ = false := e8
    have p1 : (0 : Int) ≤ (p : Int) := by omega
    have p2 : (p : Int) < (n : Int) := by omega
    have F := Lib.hid (show RxTo w r lv R' (.int .i64 0) (.returned (.int .i64 0)) ((wz.setCell ⟨gv, ov + p * 6 + 2, none⟩ (.int .i64 vp)).setCell ⟨gv, ov + p * 6 + 3, none⟩ (.int .i64 vq)) from by
      rw [← hwz]
      have hva' := hva
      rw [← HN.out.1] at hva' ⊢
      exact HR1.out.turned (j := 2) HS1.out HVP.out.2.1 hva' hgv (by rw [HN.out.1]; exact hpn) (by decide) (by rw [HX.out.2, ← wcells_setF R p x (vp, vq) HX.out.1]) (by rw [HX.out.2, List.length_set]) (by rw [HX.out.2, rkeys_set (y := { x with f := (vp, vq) }) HX.out.1 rfl]; exact HR1.out.ks))
    rw [hwz]
    clear hwz e2 hva c0 c0' f0 f0' hcA hw
    go_still_tail 8, (by kernel_rfl)
    change wpList _ _ _ _ _ wz.drew
    go_wp2_with fail
    go_ret
    exact F.out.drew
end Go.Proofs.YtedfijmaeoednaaGreatDoor

namespace Go.Proofs.YtedfijmaeoednaaGreatDoor
open Go.RowKit Go.Wh Go.Proofs.YtedfijmaeoednaaGreatDoor.Tw

set_option maxHeartbeats 2000000 in
set_option maxRecDepth 100000 in
theorem rxmend_any (w : World) (r : Nat) (R : List Rw) (lv : Value) (k : Key) (h : RxAt w r R lv) (hl : R.length ≤ 10000) :
    Calls Tryz.prog 13 #[ptr r, .string k] w (RxTo w r lv (mendR R k) (errOf (getR R k))) := by
  have HF := Lib.hid (fun w' (hs : Still w w') => rxfind_any w' r R lv k (h.still hs) (by omega))
  have H := Lib.hid h
  obtain ⟨n, hn⟩ : ∃ n, R.length = n := ⟨_, rfl⟩
  have HN := Lib.hid (And.intro hn hl)
  obtain ⟨p, hpp⟩ : ∃ p, pos (rkeys R) k = p := ⟨_, rfl⟩
  have herr := err_has R k
  generalize errOf (getR R k) = u at herr ⊢
  obtain ⟨q, hq⟩ : ∃ q, hasK (rkeys R) k = q := ⟨_, rfl⟩
  unfold RfPost at HF
  rw [hpp, hq] at HF
  have HP := Lib.hid (And.intro hpp hq)
  rw [hq] at herr
  have HU := Lib.hid herr
  obtain ⟨R', hR'⟩ : ∃ R', mendR R k = R' := ⟨_, rfl⟩
  have HRR := Lib.hid hR'
  rw [hR']
  clear h hn hl hpp hq hR' herr
  unfold ptr at HF ⊢
  go_enter Tryz.func13, Tryz.ntmps13
  go_wp2_with fail
  refine (HF.out _ (Still.refl _)).mono ?_
  rintro e w1 ⟨rfl, hs1⟩
  have HS1 := Lib.hid hs1
  have HR1 := Lib.hid (H.out.still hs1)
  clear hs1 HF
  cases q with
  | false =>
    have hg : getR R k = none := by
      show (if hasK (rkeys R) k then _ else _) = _
      rw [HP.out.2]
      rfl
    have hu0 : u = .int .i64 9 := HU.out
    subst hu0
    have F := Lib.hid (show RxTo w r lv R' (.int .i64 9) (.returned (.int .i64 9)) w1 from by
      rw [← HRR.out]
      unfold mendR
      rw [hg]
      exact RxTo.same H.out HS1.out)
    clear hg
    go_wp2_with fail
    go_ret
    exact F.out
  | true =>
    obtain ⟨x, hx, hxk, hgx, hset⟩ := get_set HP.out.2
    rw [HP.out.1] at hx hset
    have hpn : p < n := by
      have := (List.getElem?_eq_some_iff.1 hx).1
      rw [HN.out.1] at this
      exact this
    have hR2 : R' = R.set p { x with n := x.f } := by
      rw [← HRR.out]
      unfold mendR
      rw [hgx]
      exact hset { x with n := x.f } hxk
    have HX := Lib.hid (And.intro hx hR2)
    have c0 : w1.cell? ⟨r, 0, none⟩ = some lv := HR1.out.cells.cell 0
    have f0 := HR1.out.cells.free 0
    have hrd := HR1.out.v.reads
    rw [HN.out.1] at hrd
    obtain ⟨i1, hi1, hy0, hy1, hy2⟩ := info_parts info_w
    have HJ := Lib.hid (And.intro hi1 (And.intro hy0 (And.intro hy1 hy2)))
    have hcA : ∀ ob, (w1.alloc ob).cell? ⟨r, 0, none⟩ = some lv := fun ob => Still.cell ((Still.refl w1).alloc ob) c0
    have HRD := Lib.hid (fun ob => hrd.belowAll ((Below.refl w1.heap.size w1).alloc (Nat.le_refl _) ob))
    have hu0 : u = .int .i64 0 := HU.out
    subst hu0
    clear hrd hi1 hy0 hy1 hy2 hx hxk hgx hset hR2
    go_wp2_with (at_builtin; refine wpList_append_vec rfl _ _ 27 rfl 71 i1 _ 6 64 Tryz.underlying27 HJ.out.1 HJ.out.2.1 HJ.out.2.2.1 HJ.out.2.2.2 rfl (by decide) _ 0 [] rfl (Vec.none_ _ _ _ _) _ n (wcells R) rfl (HRD.out _) (fun u hu => wcells_one _ u hu) (by simp only [maxLen]; have := HN.out; omega) (by have := HN.out; omega) ?_; intro v' w' hv' ho' hb'; rw [Nat.zero_add, List.nil_append] at hv'; have hst := rcopied ho' hb'; clear ho' hb'; have c0' := Still.cell hst.1 c0; have f0' := (HR1.out.cells.only hst.1 fun e => e).free 0; have HVP := Lib.hid (And.intro hv' hst); obtain ⟨va, vc, rfl⟩ := hv'.form'; clear hv' hst)
    obtain ⟨gv, ov, cv, he, hva⟩ := HVP.out.1.form (by omega)
    injection he with he _ hec
    subst he hec
    have hgv := HVP.out.2.2 gv rfl
    have hrl := HR1.out.cells.lt
    have hgr : gv ≠ r := by omega
    obtain ⟨wz, hwz⟩ : ∃ wz, w'.setCell ⟨r, 0, none⟩ (.slice (some ⟨gv, ov, none⟩) n vc) = wz := ⟨_, rfl⟩
    have e1 : wz.cell? ⟨r, 0, none⟩ = some (.slice (some ⟨gv, ov, none⟩) n vc) := by rw [← hwz]; exact World.cell?_setCell_same _ _ _ c0'
    have e2 : ∀ j, j < n * 6 → wz.cell? ⟨gv, ov + j, none⟩ = (wcells R)[j]? ∧ wz.frozen? ⟨gv, ov + j, none⟩ = false := fun j hj => by
      rw [← hwz, World.frozen?_setCell, World.cell?_setCell_other _ _ _ _ fun e => hgr (congrArg Addr.block e).symm]
      exact ⟨hva.cell j hj, hva.free j hj⟩
    have hw := wcells_get _ p x HX.out.1
    have e5 : wz.cell? ⟨gv, ov + p * 6 + 2, none⟩ = some (.int .i64 x.f.1) := by rw [Nat.add_assoc, (e2 (p * 6 + 2) (by omega)).1]; exact hw.2.2.1
    have e6 : wz.cell? ⟨gv, ov + p * 6 + 2 + 1, none⟩ = some (.int .i64 x.f.2) := by rw [Nat.add_assoc, Nat.add_assoc, (e2 (p * 6 + (2 + 1)) (by omega)).1]; exact hw.2.2.2.1
    have e6' : wz.cell? ⟨gv, ov + p * 6 + 3, none⟩ = some (.int .i64 x.f.2) := e6
    have e7 : wz.frozen? ⟨gv, ov + p * 6 + 4, none⟩ = false := by rw [Nat.add_assoc]; exact (e2 (p * 6 + 4) (by omega)).2
    have e8 : wz.frozen? ⟨gv, ov + p * 6 + 4 + 1, none⟩ = false := by rw [Nat.add_assoc, Nat.add_assoc]; exact (e2 (p * 6 + (4 + 1)) (by omega)).2
    have e8' : wz.frozen? ⟨gv, ov + p * 6 + 5, none⟩ = false := e8
    have e9 : wz.cell? ⟨gv, ov + p * 6 + 4, none⟩ = some (.int .i64 x.n.1) := by rw [Nat.add_assoc, (e2 (p * 6 + 4) (by omega)).1]; exact hw.2.2.2.2.1
    have e10 : wz.cell? ⟨gv, ov + p * 6 + 5, none⟩ = some (.int .i64 x.n.2) := by rw [Nat.add_assoc, (e2 (p * 6 + 5) (by omega)).1]; exact hw.2.2.2.2.2
    have p1 : (0 : Int) ≤ (p : Int) := by omega
    have p2 : (p : Int) < (n : Int) := by omega
    have F := Lib.hid (show RxTo w r lv R' (.int .i64 0) (.returned (.int .i64 0)) ((wz.setCell ⟨gv, ov + p * 6 + 4, none⟩ (.int .i64 x.f.1)).setCell ⟨gv, ov + p * 6 + 5, none⟩ (.int .i64 x.f.2)) from by
      rw [← hwz]
      have hva' := hva
      rw [← HN.out.1] at hva' ⊢
      exact HR1.out.turned (j := 4) HS1.out HVP.out.2.1 hva' hgv (by rw [HN.out.1]; exact hpn) (by decide) (by rw [HX.out.2, ← wcells_setN R p x x.f HX.out.1]) (by rw [HX.out.2, List.length_set]) (by rw [HX.out.2, rkeys_set (y := { x with n := x.f }) HX.out.1 rfl]; exact HR1.out.ks))
    rw [hwz]
    clear hwz e2 hva c0 c0' f0 f0' hcA hw
    go_still_tail 15, (by kernel_rfl)
    change wpList _ _ _ _ _ wz.drew
    go_wp2_with fail
    go_ret
    exact F.out.drew
end Go.Proofs.YtedfijmaeoednaaGreatDoor

namespace Go.Proofs.YtedfijmaeoednaaGreatDoor
open Go.RowKit Go.Wh Go.Proofs.YtedfijmaeoednaaGreatDoor.Tw

/-- Two appends, each behind its built row, in whatever order. -/
structure AppQ (W : World) (kv vv : Value) (n : Nat) (kc vc : List Value) (yk : Value) (y1 y2 : Value) (L : Nat → Bool) (xs : Nat → Value) (w : World) : Prop where
  all : Only (fun b => kv.ownBlock = some b ∨ vv.ownBlock = some b) W w
  b1 : L 9 = true → ∃ g, xs 9 = .slice (some ⟨g, 0, none⟩) 1 1 ∧ cellsAt w g [yk] ∧ W.heap.size ≤ g
  b2 : L 20 = true → ∃ g, xs 20 = .slice (some ⟨g, 0, none⟩) 1 1 ∧ cellsAt w g [y1, y2] ∧ W.heap.size ≤ g
  a0 : L 10 = false → Vec w 1 kv n kc
  a1 : L 10 = true → Vec w 1 (xs 10) (n + 1) (kc ++ [yk]) ∧ Nw W.heap.size w.heap.size kv (xs 10)
  c0 : L 21 = false → Vec w 2 vv n vc
  c1 : L 21 = true → L 10 = true ∧ Vec w 2 (xs 21) (n + 1) (vc ++ [y1, y2]) ∧ Nw W.heap.size w.heap.size vv (xs 21) ∧ ∀ g, W.heap.size ≤ g → (xs 10).ownBlock = some g → (xs 21).ownBlock ≠ some g

section
variable {W w w' : World} {kv vv : Value} {n : Nat} {kc vc : List Value} {yk y1 y2 : Value} {L : Nat → Bool} {xs : Nat → Value}

theorem AppQ.start (hs : Still W w) (hk : Vec w 1 kv n kc) (hv : Vec w 2 vv n vc) (hl : ∀ j ∈ [9, 10, 20, 21], L j = false) : AppQ W kv vv n kc vc yk y1 y2 L xs w := by
  refine ⟨hs.only, fun e => ?_, fun e => ?_, fun _ => hk, fun e => ?_, fun _ => hv, fun e => ?_⟩
  · rw [hl 9 (by simp)] at e; cases e
  · rw [hl 20 (by simp)] at e; cases e
  · rw [hl 10 (by simp)] at e; cases e
  · rw [hl 21 (by simp)] at e; cases e
theorem AppQ.alloc (h : AppQ W kv vv n kc vc yk y1 y2 L xs w) (o : Obj) : AppQ W kv vv n kc vc yk y1 y2 L xs (w.alloc o) := by
  obtain ⟨all, b1, b2, a0, a1, c0, c1⟩ := h
  have hz : w.heap.size ≤ (w.alloc o).heap.size := by simp
  refine ⟨all.alloc _, fun e => ?_, fun e => ?_, fun e => (a0 e).alloc _, fun e => ⟨(a1 e).1.alloc _, (a1 e).2.more hz⟩, fun e => (c0 e).alloc _, fun e => ⟨(c1 e).1, (c1 e).2.1.alloc _, (c1 e).2.2.1.more hz, (c1 e).2.2.2⟩⟩
  · obtain ⟨g, h1, h2, h3⟩ := b1 e
    exact ⟨g, h1, h2.alloc _, h3⟩
  · obtain ⟨g, h1, h2, h3⟩ := b2 e
    exact ⟨g, h1, h2.alloc _, h3⟩
theorem AppQ.b1' (h : AppQ W kv vv n kc vc yk y1 y2 L xs w) (t : TypeId) : AppQ W kv vv n kc vc yk y1 y2 (upN L 9 true) (upN xs 9 (.slice (some ⟨w.heap.size, 0, none⟩) 1 1)) (w.alloc (.cells #[yk] t)) := by
  have hs := h.all.size
  obtain ⟨all, b1, b2, a0, a1, c0, c1⟩ := h.alloc (.cells #[yk] t)
  exact ⟨all, fun _ => ⟨_, rfl, cellsAt_new w [yk] t, hs⟩, b2, a0, a1, c0, c1⟩
theorem AppQ.b2' (h : AppQ W kv vv n kc vc yk y1 y2 L xs w) (t : TypeId) : AppQ W kv vv n kc vc yk y1 y2 (upN L 20 true) (upN xs 20 (.slice (some ⟨w.heap.size, 0, none⟩) 1 1)) (w.alloc (.cells #[y1, y2] t)) := by
  have hs := h.all.size
  obtain ⟨all, b1, b2, a0, a1, c0, c1⟩ := h.alloc (.cells #[y1, y2] t)
  exact ⟨all, b1, fun _ => ⟨_, rfl, cellsAt_new w [y1, y2] t, hs⟩, a0, a1, c0, c1⟩
theorem AppQ.c1' (h : AppQ W kv vv n kc vc yk y1 y2 L xs w) (h0 : L 10 = false) (hkW : ∀ g, kv.ownBlock = some g → g < W.heap.size) (hap : ∀ g, kv.ownBlock = some g → vv.ownBlock ≠ some g) {v' : Value} (hv : Vec w' 1 v' (n + 1) (kc ++ [yk])) (ho : Only (fun b => kv.ownBlock = some b) w w')
    (hn : v'.ownBlock = kv.ownBlock ∨ ∃ g, v'.ownBlock = some g ∧ w.heap.size ≤ g ∧ g < w'.heap.size) : AppQ W kv vv n kc vc yk y1 y2 (upN L 10 true) (upN xs 10 v') w' := by
  obtain ⟨all, b1, b2, a0, a1, c0, c1⟩ := h
  refine ⟨all.trans (ho.mono fun _ e => .inl e), fun e => ?_, fun e => ?_, fun e => (by cases e), fun _ => ⟨hv, hn.imp id fun ⟨g, h1, h2, h3⟩ => ⟨g, h1, Nat.le_trans all.size h2, h3⟩⟩, fun e => ?_, fun e => ?_⟩
  · obtain ⟨g, h1, h2, h3⟩ := b1 e
    exact ⟨g, h1, h2.only ho fun e => by have := hkW g e; omega, h3⟩
  · obtain ⟨g, h1, h2, h3⟩ := b2 e
    exact ⟨g, h1, h2.only ho fun e => by have := hkW g e; omega, h3⟩
  · exact (c0 e).only ho fun g hg e' => hap g e' hg
  · have := (c1 e).1
    rw [h0] at this
    cases this
theorem AppQ.c2' (h : AppQ W kv vv n kc vc yk y1 y2 L xs w) (h1 : L 10 = true) (hkW : ∀ g, kv.ownBlock = some g → g < W.heap.size) (hvW : ∀ g, vv.ownBlock = some g → g < W.heap.size) (hap : ∀ g, kv.ownBlock = some g → vv.ownBlock ≠ some g) {v' : Value} (hv : Vec w' 2 v' (n + 1) (vc ++ [y1, y2])) (ho : Only (fun b => vv.ownBlock = some b) w w')
    (hn : v'.ownBlock = vv.ownBlock ∨ ∃ g, v'.ownBlock = some g ∧ w.heap.size ≤ g ∧ g < w'.heap.size) : AppQ W kv vv n kc vc yk y1 y2 (upN L 21 true) (upN xs 21 v') w' := by
  obtain ⟨all, b1, b2, a0, a1, c0, c1⟩ := h
  have hx3 : ∀ g, (xs 10).ownBlock = some g → vv.ownBlock ≠ some g := fun g hg e => by
    rcases (a1 h1).2.cases hg with h | h
    · exact hap g h e
    · have := hvW g e; omega
  refine ⟨all.trans (ho.mono fun _ e => .inr e), fun e => ?_, fun e => ?_, fun e => ?_, fun _ => ⟨(a1 h1).1.only ho fun g hg e => hx3 g hg e, (a1 h1).2.more ho.size⟩, fun e => (by cases e), fun _ => ⟨h1, hv, hn.imp id fun ⟨g, h1, h2, h3⟩ => ⟨g, h1, Nat.le_trans all.size h2, h3⟩, fun g hg e1 e2 => ?_⟩⟩
  · obtain ⟨g, h1, h2, h3⟩ := b1 e
    exact ⟨g, h1, h2.only ho fun e => by have := hvW g e; omega, h3⟩
  · obtain ⟨g, h1, h2, h3⟩ := b2 e
    exact ⟨g, h1, h2.only ho fun e => by have := hvW g e; omega, h3⟩
  · have e' : L 10 = false := e
    rw [h1] at e'
    cases e'
  · have e1' : (xs 10).ownBlock = some g := e1
    have e2' : v'.ownBlock = some g := e2
    rcases hn with h | ⟨g', h2, h3, h4⟩
    · rw [h] at e2'
      have := hvW g e2'
      omega
    · rw [h2] at e2'
      injection e2' with e2'
      rcases (a1 h1).2.cases e1' with h | h
      · have := hkW g h; omega
      · omega
end


/-- On the way: what is gathered since the world W. -/
structure GatL (W : World) (ks : List Key) (vs : List Rid) (kv av : Value) (wr : World) : Prop where
  only : Only (fun c => W.heap.size ≤ c) W wr
  len : vs.length = ks.length
  k : Vec wr 1 kv ks.length (kcells ks)
  v : Vec wr 2 av ks.length (rcells vs)
  ok : ∀ g, kv.ownBlock = some g → W.heap.size ≤ g ∧ g < wr.heap.size
  ov : ∀ g, av.ownBlock = some g → W.heap.size ≤ g ∧ g < wr.heap.size
  ap : ∀ g, kv.ownBlock = some g → av.ownBlock ≠ some g
theorem GatL.start (W : World) : GatL W [] [] (.slice none 0 0) (.slice none 0 0) W :=
  ⟨Only.refl _ _, rfl, Vec.nil _ _, Vec.nil _ _, (by intro g h; cases h), (by intro g h; cases h), (by intro g h; cases h)⟩
theorem GatL.told {w W wr : World} {ks : List Key} {vs : List Rid} {kv av : Value} (hs : Still w W) (h : GatL W ks vs kv av wr) : Lists w wr ks vs kv av ∧ Still w wr := by
  have hz := hs.size
  have hv := h.v
  rw [← h.len] at hv
  refine ⟨⟨h.k, hv, fun g hg => by have := h.ok g hg; omega, fun g hg => by have := h.ov g hg; omega, h.ap⟩, ?_⟩
  exact still_of (hs.only.trans h.only) fun c hc e => by omega
theorem GatL.next {W w1 w2 : World} {ks : List Key} {vs : List Rid} {kv av kv' av' : Value} (h : GatL W ks vs kv av w1) (key : Key) (r1 r2 : Int)
    (ho : Only (fun b => kv.ownBlock = some b ∨ av.ownBlock = some b) w1 w2) (hk : Vec w2 1 kv' (ks.length + 1) (kcells ks ++ [.string key])) (hv : Vec w2 2 av' (ks.length + 1) (rcells vs ++ [.int .i64 r1, .int .i64 r2]))
    (n1 : Nw w1.heap.size w2.heap.size kv kv') (n2 : Nw w1.heap.size w2.heap.size av av') (hap : ∀ g, w1.heap.size ≤ g → kv'.ownBlock = some g → av'.ownBlock ≠ some g) : GatL W (ks ++ [key]) (vs ++ [(r1, r2)]) kv' av' w2 := by
  have hz1 := h.only.size
  have hz3 := ho.size
  have el : (ks ++ [key]).length = ks.length + 1 := by simp
  have e1 : kcells (ks ++ [key]) = kcells ks ++ [.string key] := by unfold kcells; simp
  have e2 : rcells (vs ++ [(r1, r2)]) = rcells vs ++ [.int .i64 r1, .int .i64 r2] := by rw [rcells_append]; rfl
  refine ⟨h.only.trans (ho.mono fun b e => ?_), by simp [h.len], by rw [el, e1]; exact hk, by rw [el, e2]; exact hv, fun g hg => ?_, fun g hg => ?_, fun g g1 g2 => ?_⟩
  · rcases e with e | e
    · exact (h.ok b e).1
    · exact (h.ov b e).1
  · rcases n1.cases hg with e | e
    · have := h.ok g e; omega
    · omega
  · rcases n2.cases hg with e | e
    · have := h.ov g e; omega
    · omega
  · rcases n1.cases g1 with e | e
    · rcases n2.cases g2 with e' | e'
      · exact h.ap g e e'
      · have := h.ok g e; omega
    · exact hap g e.1 g1 g2
theorem GatL.old {W wr : World} {ks : List Key} {vs : List Rid} {kv av : Value} (h : GatL W ks vs kv av wr) {c o : Nat} {u : Value} (hc : W.cell? ⟨c, o, none⟩ = some u) : wr.cell? ⟨c, o, none⟩ = some u :=
  (h.only.cell (p := ⟨c, o, none⟩) (lt_of_cell hc) (fun e => by have := lt_of_cell hc; have e2 : W.heap.size ≤ c := e; omega)).trans hc
/-- What was there stays behind the appends. -/
theorem GatL.keep {W wr w' : World} {ks : List Key} {vs : List Rid} {kv av : Value} (h : GatL W ks vs kv av wr) (ho : Only (fun b => kv.ownBlock = some b ∨ av.ownBlock = some b) wr w') {c o : Nat} {u : Value} (hc : W.cell? ⟨c, o, none⟩ = some u) : w'.cell? ⟨c, o, none⟩ = some u := by
  have h1 := h.old hc
  have h2 := lt_of_cell hc
  refine (ho.cell (p := ⟨c, o, none⟩) (lt_of_cell h1) fun e => ?_).trans h1
  rcases e with e | e
  · have h3 : kv.ownBlock = some c := e
    have := (h.ok c h3).1
    omega
  · have h3 : av.ownBlock = some c := e
    have := (h.ov c h3).1
    omega
end Go.Proofs.YtedfijmaeoednaaGreatDoor

namespace Go.Proofs.YtedfijmaeoednaaGreatDoor
open Go.RowKit Go.Wh Go.Proofs.YtedfijmaeoednaaGreatDoor.Tw

theorem seek_yes {R : List Rw} {i : Nat} {x : Rw} {s : Key} (h : R[i]? = some x) (hs : x.sec = s) : seekR (R.take (i + 1)) s = seekR (R.take i) s ++ [x] := by
  unfold seekR
  rw [List.take_add_one, h, List.filter_append]
  simp [hs]
theorem seek_no {R : List Rw} {i : Nat} {x : Rw} {s : Key} (h : R[i]? = some x) (hs : x.sec ≠ s) : seekR (R.take (i + 1)) s = seekR (R.take i) s := by
  unfold seekR
  rw [List.take_add_one, h, List.filter_append]
  simp [hs]

set_option maxRecDepth 100000 in
set_option maxHeartbeats 2000000 in
theorem rxseek_any (w : World) (r : Nat) (R : List Rw) (lv : Value) (s : Key) (h : RxAt w r R lv) (hl : R.length ≤ 10000) :
    Calls Tryz.prog 19 #[ptr r, .string s] w (TwoL w (rkeys (seekR R s)) ((seekR R s).map Rw.n)) := by
  have H := Lib.hid h
  obtain ⟨n, hn⟩ : ∃ n, R.length = n := ⟨_, rfl⟩
  have HN := Lib.hid (And.intro hn hl)
  obtain ⟨a, c, rfl⟩ := h.v.form'
  have c0w : w.cell? ⟨r, 0, none⟩ = some (.slice a R.length c) := h.cells.cell 0
  rw [hn] at c0w
  have HC := Lib.hid c0w
  obtain ⟨i0, hi0, hz0, hz1, hz2⟩ := info_parts info_s
  obtain ⟨i1, hi1, hy0, hy1, hy2⟩ := info_parts info_r
  have HI := Lib.hid (And.intro hi0 (And.intro hz0 (And.intro hz1 hz2)))
  have HJ := Lib.hid (And.intro hi1 (And.intro hy0 (And.intro hy1 hy2)))
  clear hi0 hz0 hz1 hz2 hi1 hy0 hy1 hy2 h hn hl c0w
  unfold ptr
  go_enter Tryz.func19, Tryz.ntmps19
  go_wp2_with fail
  go_loopw [6, 7, 8] (fun s6 s7 s8 wr => ∃ i : Nat, s8 = .int .i64 i ∧ i ≤ n ∧ GatL w (rkeys (seekR (R.take i) s)) ((seekR (R.take i) s).map Rw.n) s6 s7 wr) (fun _ _ s8 _ => n - (intOf s8).toNat)
  case atStart => exact ⟨0, rfl, Nat.zero_le _, GatL.start _⟩
  case round =>
    obtain ⟨i, rfl, hin, hg⟩ := hrel
    have c0 := hg.old HC.out
    by_cases hlt : i < n
    · obtain ⟨g, o, c', he, hv⟩ := H.out.v.form (by have := HN.out.1; omega)
      injection he with he _ hec
      subst he hec
      obtain ⟨x, hx⟩ : ∃ x, R[i]? = some x := ⟨_, List.getElem?_eq_getElem (by rw [HN.out.1]; exact hlt)⟩
      have hw := wcells_get _ i x hx
      have hcl : ∀ j u, j < 6 → (wcells R)[i * 6 + j]? = some u → w.cell? ⟨g, o + i * 6 + j, none⟩ = some u := fun j u hj hu => by
        rw [Nat.add_assoc, hv.cell (i * 6 + j) (by have := HN.out.1; omega)]
        exact hu
      have b0 : (0 : Int) ≤ (i : Int) := by omega
      have b1 : (i : Int) < (n : Int) := by omega
      have d1 : decide ((i : Int) < (n : Int)) = true := by simp; omega
      have d2 : decide (i < n) = true := by simp; omega
      have u9 : IntKind.i64.wrap ((i : Int) + 1) = (i : Int) + 1 := IntWalk.i64_in _ (by have := HN.out; omega)
      have c1 : wr.cell? ⟨g, o + i * 6 + 1, none⟩ = some (.string x.sec) := hg.old (hcl 1 _ (by omega) hw.2.1)
      by_cases hsec : x.sec = s
      rotate_left
      · have HE := Lib.hid (show GatL w (rkeys (seekR (R.take (i + 1)) s)) ((seekR (R.take (i + 1)) s).map Rw.n) u6 u7 wr from by rw [seek_no hx hsec]; exact hg)
        have e2 := key_eq hsec
        generalize x.sec = xs at c1 e2
        clear hsec hg hw hcl hv hx
        go_wp2_with fail
        go_roundw
        case rel => exact ⟨i + 1, by go_num, by omega, HE.out⟩
        case measure => simp [intOf]; omega
      rw [hsec] at c1
      have k0 : w.cell? ⟨g, o + i * 6, none⟩ = some (.string x.key) := hcl 0 _ (by omega) hw.1
      have k1 : w.cell? ⟨g, o + i * 6 + 4, none⟩ = some (.int .i64 x.n.1) := hcl 4 _ (by omega) hw.2.2.2.2.1
      have k2 : w.cell? ⟨g, o + i * 6 + 5, none⟩ = some (.int .i64 x.n.2) := hcl 5 _ (by omega) hw.2.2.2.2.2
      obtain ⟨xk, hxk⟩ : ∃ xk, x.key = xk := ⟨_, rfl⟩
      obtain ⟨xa, hxa⟩ : ∃ xa, x.n.1 = xa := ⟨_, rfl⟩
      obtain ⟨xb, hxb⟩ : ∃ xb, x.n.2 = xb := ⟨_, rfl⟩
      rw [hxk] at k0
      rw [hxa] at k1
      rw [hxb] at k2
      obtain ⟨m, hm⟩ : ∃ m, (rkeys (seekR (R.take i) s)).length = m := ⟨_, rfl⟩
      have HM := Lib.hid (show m ≤ 10000 from by
        rw [← hm, rkeys_length]
        exact Nat.le_trans (List.length_filter_le _ _) (Nat.le_trans (by rw [List.length_take]; exact Nat.min_le_right _ _) HN.out.2))
      have HG := Lib.hid (show GatL w (rkeys (seekR (R.take i) s)) ((seekR (R.take i) s).map Rw.n) u6 u7 wr ∧ Vec wr.drew 1 u6 m (kcells (rkeys (seekR (R.take i) s))) ∧ Vec wr.drew 2 u7 m (rcells ((seekR (R.take i) s).map Rw.n)) from ⟨hg, hm ▸ hg.k.drew, hm ▸ hg.v.drew⟩)
      have HS4 := Lib.hid (fun w' (ho : Only (fun b => u6.ownBlock = some b ∨ u7.ownBlock = some b) wr w') => show w'.cell? ⟨r, 0, none⟩ = some (.slice (some ⟨g, o, none⟩) n c) ∧ w'.cell? ⟨g, o + i * 6, none⟩ = some (.string xk) ∧ w'.cell? ⟨g, o + i * 6 + 4, none⟩ = some (.int .i64 xa) ∧ w'.cell? ⟨g, o + i * 6 + 4 + 1, none⟩ = some (.int .i64 xb) ∧ w'.cell? ⟨g, o + i * 6 + 5, none⟩ = some (.int .i64 xb) from
        ⟨hg.keep ho HC.out, hg.keep ho k0, hg.keep ho k1, hg.keep ho k2, hg.keep ho k2⟩)
      have HNX := Lib.hid (fun kv' av' w2 (ho : Only (fun b => u6.ownBlock = some b ∨ u7.ownBlock = some b) wr w2) (hk : Vec w2 1 kv' (m + 1) (kcells (rkeys (seekR (R.take i) s)) ++ [.string xk])) (hv : Vec w2 2 av' (m + 1) (rcells ((seekR (R.take i) s).map Rw.n) ++ [.int .i64 xa, .int .i64 xb])) (n1 : Nw wr.heap.size w2.heap.size u6 kv') (n2 : Nw wr.heap.size w2.heap.size u7 av') (hap : ∀ g, wr.heap.size ≤ g → kv'.ownBlock = some g → av'.ownBlock ≠ some g) =>
        show GatL w (rkeys (seekR (R.take (i + 1)) s)) ((seekR (R.take (i + 1)) s).map Rw.n) kv' av' w2 from by
          have hnx := hg.next xk xa xb ho (hm.symm ▸ hk) (hm.symm ▸ hv) n1 n2 hap
          rw [seek_yes hx hsec]
          unfold rkeys at hnx ⊢
          rw [List.map_append, List.map_append]
          rw [← hxk, ← hxa, ← hxb] at hnx
          exact hnx)
      clear hg hw hcl hv hx hxk hxa hxb k0 k1 k2 hm hsec
      go_wp2_with fail
      refine wp_region_D_drew (D := (fun i => [0, 1, 2, 3, 5, 11, 12, 13, 14, 16].contains i)) (S := (fun w' => w'.cell? ⟨r, 0, none⟩ = some (.slice (some ⟨g, o, none⟩) n c) ∧ w'.cell? ⟨g, o + i * 6, none⟩ = some (.string xk) ∧ w'.cell? ⟨g, o + i * 6 + 4, none⟩ = some (.int .i64 xa) ∧ w'.cell? ⟨g, o + i * 6 + 4 + 1, none⟩ = some (.int .i64 xb) ∧ w'.cell? ⟨g, o + i * 6 + 5, none⟩ = some (.int .i64 xb))) (by kernel_rfl) ?_ (fun hHeld => ?_)
      · exact HS4.out _ (Only.refl _ _).drew
      (refine takeD (i := 0) (some 28) (v := ?_) rfl (by rfl) (by rfl) (by kernel_rfl) (by rfl) (fun _ _ _ h => h) ?_ ?_; rotate_left; (intro w; go_simp; try with_reducible rfl); try go_frame)
      (refine takeD (i := 1) (some 29) (v := ?_) rfl (by rfl) (by rfl) (by kernel_rfl) (by rfl) (fun _ _ _ h => h) ?_ ?_; rotate_left; (intro w; go_simp; try with_reducible rfl); try go_frame)
      (refine takeD (i := 2) (some 30) (v := ?_) rfl (by rfl) (by rfl) (by kernel_rfl) (by rfl) (fun _ _ _ h => h) ?_ ?_; rotate_left; (intro w; go_simp; try with_reducible rfl); try go_frame)
      (refine takeD (i := 3) (some 31) (v := ?_) rfl (by rfl) (by rfl) (by kernel_rfl) (by rfl) (fun _ _ _ h => h) ?_ ?_; rotate_left; (intro w; go_simp; try with_reducible rfl); try go_frame)
      (refine takeD (i := 5) (some 33) (v := ?_) rfl (by rfl) (by rfl) (by kernel_rfl) (by rfl) (fun _ _ _ h => h) ?_ ?_; rotate_left; (intro w; go_simp; try with_reducible rfl); try go_frame)
      (refine takeD (i := 11) (some 39) (v := ?_) rfl (by rfl) (by rfl) (by kernel_rfl) (by rfl) (fun _ _ _ h => h) ?_ ?_; rotate_left; (intro w; go_simp; try with_reducible rfl); try go_frame)
      (refine takeD (i := 12) (some 40) (v := ?_) rfl (by rfl) (by rfl) (by kernel_rfl) (by rfl) (fun _ _ _ h => h) ?_ ?_; rotate_left; (intro w; go_simp; try with_reducible rfl); try go_frame)
      (refine takeD (i := 13) (some 41) (v := ?_) rfl (by rfl) (by rfl) (by kernel_rfl) (by rfl) (fun _ _ _ h => h) ?_ ?_; rotate_left; (intro w; go_simp; try with_reducible rfl); try go_frame)
      (refine takeD (i := 14) (some 42) (v := ?_) rfl (by rfl) (by rfl) (by kernel_rfl) (by rfl) (fun _ _ _ h => h) ?_ ?_; rotate_left; (intro w; go_simp; try with_reducible rfl); try go_frame)
      (refine takeD (i := 16) (some 44) (v := ?_) rfl (by rfl) (by rfl) (by kernel_rfl) (by rfl) (fun _ _ _ h => h) ?_ ?_; rotate_left; (intro w; go_simp; try with_reducible rfl); try go_frame)
      (refine takeS (i := 4) (some 32) (v := ?_) rfl (by rfl) (by rfl) (by kernel_rfl) (by rfl) (fun _ _ _ h => h) (by assumption) ?_ ?_; rotate_left; (intro w hSw; (try dsimp only at hSw); go_simp; try with_reducible rfl); try go_frame)
      (refine takeS (i := 6) (some 34) (v := ?_) rfl (by rfl) (by rfl) (by kernel_rfl) (by rfl) (fun _ _ _ h => h) (by assumption) ?_ ?_; rotate_left; (intro w hSw; (try dsimp only at hSw); go_simp; try with_reducible rfl); try go_frame)
      (refine takeS (i := 7) (some 35) (v := ?_) rfl (by rfl) (by rfl) (by kernel_rfl) (by rfl) (fun _ _ _ h => h) (by assumption) ?_ ?_; rotate_left; (intro w hSw; (try dsimp only at hSw); go_simp; try with_reducible rfl); try go_frame)
      (refine takeS (i := 8) (some 36) (v := ?_) rfl (by rfl) (by rfl) (by kernel_rfl) (by rfl) (fun _ _ _ h => h) (by assumption) ?_ ?_; rotate_left; (intro w hSw; (try dsimp only at hSw); go_simp; try with_reducible rfl); try go_frame)
      (refine takeS (i := 15) (some 43) (v := ?_) rfl (by rfl) (by rfl) (by kernel_rfl) (by rfl) (fun _ _ _ h => h) (by assumption) ?_ ?_; rotate_left; (intro w hSw; (try dsimp only at hSw); go_simp; try with_reducible rfl); try go_frame)
      (refine takeS (i := 17) (some 45) (v := ?_) rfl (by rfl) (by rfl) (by kernel_rfl) (by rfl) (fun _ _ _ h => h) (by assumption) ?_ ?_; rotate_left; (intro w hSw; (try dsimp only at hSw); go_simp; try with_reducible rfl); try go_frame)
      (refine takeS (i := 18) (some 46) (v := ?_) rfl (by rfl) (by rfl) (by kernel_rfl) (by rfl) (fun _ _ _ h => h) (by assumption) ?_ ?_; rotate_left; (intro w hSw; (try dsimp only at hSw); go_simp; try with_reducible rfl); try go_frame)
      (refine takeS (i := 19) (some 47) (v := ?_) rfl (by rfl) (by rfl) (by kernel_rfl) (by rfl) (fun _ _ _ h => h) (by assumption) ?_ ?_; rotate_left; (intro w hSw; (try dsimp only at hSw); go_simp; try with_reducible rfl); try go_frame)
      refine wpAnyD_merged (J := AppQ wr u6 u7 m (kcells (rkeys (seekR (R.take i) s))) (rcells ((seekR (R.take i) s).map Rw.n)) (.string xk) (.int .i64 xa) (.int .i64 xb)) [(9, 37), (10, 38), (20, 48), (21, 49)] (fun i => if i = 10 then [9] else if i = 21 then [20, 10] else []) #[true, true, true, true, true, true, true, true, true, true, true, true, true, true, true, true, true, true, true, true, true, true, false, false] rfl (by kernel_rfl) (by kernel_rfl) ?_ ?_ ?_ ?_
      · intro L xs w' hJ
        exact HS4.out _ hJ.all
      · intro xs
        refine AppQ.start (still_drew wr) HG.out.2.1 HG.out.2.2 ?_
        intro j hj
        simp only [List.mem_cons, List.not_mem_nil, or_false] at hj
        rcases hj with rfl | rfl | rfl | rfl <;> kernel_rfl
      · intro pp hp
        simp only [List.mem_cons, List.not_mem_nil, or_false] at hp
        rcases hp with rfl | rfl | rfl | rfl
        · refine StepM.of rfl (fun L xs w' hd hl hJ K hK => ?_)
          (unfold fillA; simp only [List.foldl]; try go_frame)
          go_simp
          refine hK.out _ _ (hJ.b1' _) _ (by kernel_rfl)
        · refine StepM.of rfl (fun L xs w' hd hl hJ K hK => ?_)
          obtain ⟨g', hg', hb, hgw⟩ := hJ.b1 (hd 9 (by simp))
          refine step_append_vec rfl _ _ 42 rfl 9 i0 _ 1 16 Tryz.underlying42 HI.out.1 HI.out.2.1 HI.out.2.2.1 HI.out.2.2.2 rfl (by decide) u6 m _ ?_ (hJ.a0 hl) (.slice (some ⟨g', 0, none⟩) 1 1) 1 [.string xk] ?_ (hb.reads rfl) (by intro u hu; simp at hu; rw [hu]; rfl) (by have := HM.out; simp only [maxLen]; omega) (by have := HM.out; omega) ?_
          · (unfold fillA; simp only [List.foldl]; try go_frame)
            simp [Act.eval]
          · (unfold fillA; simp only [List.foldl]; try go_frame)
            simp [Act.eval, hg']
          · intro v' w2 hv' ho' hb'
            exact hK.out _ _ (hJ.c1' hl (fun g hg => (HG.out.1.ok g hg).2) HG.out.1.ap hv' ho' hb') _ rfl
        · refine StepM.of rfl (fun L xs w' hd hl hJ K hK => ?_)
          (unfold fillA; simp only [List.foldl]; try go_frame)
          go_simp
          refine hK.out _ _ (hJ.b2' _) _ (by kernel_rfl)
        · refine StepM.of rfl (fun L xs w' hd hl hJ K hK => ?_)
          obtain ⟨g', hg', hb, hgw⟩ := hJ.b2 (hd 20 (by simp))
          refine step_append_vec rfl _ _ 43 rfl 31 i1 _ 2 16 Tryz.underlying43 HJ.out.1 HJ.out.2.1 HJ.out.2.2.1 HJ.out.2.2.2 rfl (by decide) u7 m _ ?_ (hJ.c0 hl) (.slice (some ⟨g', 0, none⟩) 1 1) 1 [.int .i64 xa, .int .i64 xb] ?_ (hb.reads rfl) (by intro u hu; simp at hu; rcases hu with hu | hu <;> (rw [hu]; rfl)) (by have := HM.out; simp only [maxLen]; omega) (by have := HM.out; omega) ?_
          · (unfold fillA; simp only [List.foldl]; try go_frame)
            simp [Act.eval]
          · (unfold fillA; simp only [List.foldl]; try go_frame)
            simp [Act.eval, hg']
          · intro v' w2 hv' ho' hb'
            exact hK.out _ _ (hJ.c2' (hd 10 (by simp)) (fun g hg => (HG.out.1.ok g hg).2) (fun g hg => (HG.out.1.ov g hg).2) HG.out.1.ap hv' ho' hb') _ rfl
      · intro xs w' hJ
        (unfold fillA; simp only [List.foldl]; try go_frame)
        obtain ⟨_, q2, q3, q4⟩ := hJ.c1 (by kernel_rfl)
        obtain ⟨r2', r3⟩ := hJ.a1 (by kernel_rfl)
        have hend := HNX.out _ _ _ hJ.all r2' q2 r3 q3 q4
        have HEND := Lib.hid hend
        have hHeld2 := HS4.out _ hJ.all
        clear hJ q2 q3 q4 r2' r3 hend
        generalize xs 10 = v3 at *
        generalize xs 21 = v10 at *
        (refine takeS (i := 22) (some 6) (v := ?_) rfl (by rfl) (by rfl) (by kernel_rfl) (by rfl) (fun _ _ _ h => h) (by assumption) ?_ ?_; rotate_left; (intro w hSw; (try dsimp only at hSw); go_simp; try with_reducible rfl); try go_frame)
        (refine takeS (i := 23) (some 7) (v := ?_) rfl (by rfl) (by rfl) (by kernel_rfl) (by rfl) (fun _ _ _ h => h) (by assumption) ?_ ?_; rotate_left; (intro w hSw; (try dsimp only at hSw); go_simp; try with_reducible rfl); try go_frame)
        refine wpAnyD_done (by kernel_rfl) ?_ _
        rotate_left
        go_wp2_with fail
        go_roundw
        case rel => exact ⟨i + 1, by go_num, by omega, HEND.out⟩
        case measure => simp [intOf]; omega
    · have hie : i = n := by omega
      have d1 : decide ((i : Int) < (n : Int)) = false := by simp; omega
      have d2 : decide (i < n) = false := by simp; omega
      have F0 := Lib.hid (show TwoL w (rkeys (seekR R s)) ((seekR R s).map Rw.n) (.returned (.tuple #[u6, u7])) wr from by
        have h1 := GatL.told (Still.refl w) hg
        rw [hie, List.take_of_length_le (by rw [HN.out.1]; exact Nat.le_refl _)] at h1
        exact ⟨_, _, rfl, h1.1, h1.2⟩)
      clear hg hie
      go_wp2_with fail
      go_ret2
      exact F0.out
end Go.Proofs.YtedfijmaeoednaaGreatDoor

namespace Go.Proofs.YtedfijmaeoednaaGreatDoor
open Go.RowKit Go.Wh Go.Proofs.YtedfijmaeoednaaGreatDoor.Tw

theorem from_next {R : List Rw} {p i : Nat} {x : Rw} (h : R[i]? = some x) (hp : p ≤ i) : (R.drop p).take (i + 1 - p) = (R.drop p).take (i - p) ++ [x] := by
  rw [show i + 1 - p = (i - p) + 1 by omega, List.take_add_one, List.getElem?_drop, show p + (i - p) = i by omega, h]
  rfl

set_option maxRecDepth 100000 in
set_option maxHeartbeats 2000000 in
theorem rxfrom_any (w : World) (r : Nat) (R : List Rw) (lv : Value) (k : Key) (h : RxAt w r R lv) (hl : R.length ≤ 10000) :
    Calls Tryz.prog 23 #[ptr r, .string k] w (TwoL w (rkeys (fromR R k)) ((fromR R k).map Rw.f)) := by
  have HF := Lib.hid (rxfind_any w r R lv k h (by omega))
  have hp := pos_le (rkeys R) k
  unfold fromR
  rw [rkeys_length] at hp
  obtain ⟨p, hpp⟩ : ∃ p, pos (rkeys R) k = p := ⟨_, rfl⟩
  obtain ⟨q, hq⟩ : ∃ q, hasK (rkeys R) k = q := ⟨_, rfl⟩
  unfold RfPost at HF
  rw [hpp, hq] at HF
  rw [hpp] at hp ⊢
  have H0 := Lib.hid h
  obtain ⟨n, hn⟩ : ∃ n, R.length = n := ⟨_, rfl⟩
  have HN := Lib.hid (And.intro hn hl)
  obtain ⟨a, c, rfl⟩ := h.v.form'
  have c0w : w.cell? ⟨r, 0, none⟩ = some (.slice a R.length c) := h.cells.cell 0
  rw [hn] at c0w
  obtain ⟨i0, hi0, hz0, hz1, hz2⟩ := info_parts info_s
  obtain ⟨i1, hi1, hy0, hy1, hy2⟩ := info_parts info_r
  have HI := Lib.hid (And.intro hi0 (And.intro hz0 (And.intro hz1 hz2)))
  have HJ := Lib.hid (And.intro hi1 (And.intro hy0 (And.intro hy1 hy2)))
  rw [hn] at hp
  have HP := Lib.hid hp
  have HC0 := Lib.hid c0w
  clear hi0 hz0 hz1 hz2 hi1 hy0 hy1 hy2 h hn hl c0w hpp hq hp
  unfold ptr at HF ⊢
  go_enter Tryz.func23, Tryz.ntmps23
  go_wp2_with fail
  refine HF.out.mono ?_
  rintro e w1 ⟨rfl, hs1⟩
  have HS1 := Lib.hid hs1
  have H := Lib.hid (H0.out.still hs1)
  have HC := Lib.hid (Still.cell hs1 HC0.out)
  clear HF hs1
  go_wp2_with fail
  go_loopw [6, 7, 10] (fun s6 s7 s10 wr => ∃ i : Nat, s10 = .int .i64 i ∧ i ≤ n ∧ p ≤ i ∧ GatL w1 (rkeys ((R.drop p).take (i - p))) (((R.drop p).take (i - p)).map Rw.f) s6 s7 wr) (fun _ _ s10 _ => n - (intOf s10).toNat)
  case atStart =>
    refine ⟨p, rfl, HP.out, Nat.le_refl _, ?_⟩
    rw [Nat.sub_self]
    exact GatL.start _
  case round =>
    obtain ⟨i, rfl, hin, hpi, hg⟩ := hrel
    have c0 := hg.old HC.out
    by_cases hlt : i < n
    · obtain ⟨g, o, c', he, hv⟩ := H.out.v.form (by have := HN.out.1; omega)
      injection he with he _ hec
      subst he hec
      obtain ⟨x, hx⟩ : ∃ x, R[i]? = some x := ⟨_, List.getElem?_eq_getElem (by rw [HN.out.1]; exact hlt)⟩
      have hw := wcells_get _ i x hx
      have hcl : ∀ j u, j < 6 → (wcells R)[i * 6 + j]? = some u → w1.cell? ⟨g, o + i * 6 + j, none⟩ = some u := fun j u hj hu => by
        rw [Nat.add_assoc, hv.cell (i * 6 + j) (by have := HN.out.1; omega)]
        exact hu
      have b0 : (0 : Int) ≤ (i : Int) := by omega
      have b1 : (i : Int) < (n : Int) := by omega
      have d1 : decide ((i : Int) < (n : Int)) = true := by simp; omega
      have d2 : decide (i < n) = true := by simp; omega
      have u9 : IntKind.i64.wrap ((i : Int) + 1) = (i : Int) + 1 := IntWalk.i64_in _ (by have := HN.out; omega)
      have k0 : w1.cell? ⟨g, o + i * 6, none⟩ = some (.string x.key) := hcl 0 _ (by omega) hw.1
      have k1 : w1.cell? ⟨g, o + i * 6 + 2, none⟩ = some (.int .i64 x.f.1) := hcl 2 _ (by omega) hw.2.2.1
      have k2 : w1.cell? ⟨g, o + i * 6 + 3, none⟩ = some (.int .i64 x.f.2) := hcl 3 _ (by omega) hw.2.2.2.1
      obtain ⟨xk, hxk⟩ : ∃ xk, x.key = xk := ⟨_, rfl⟩
      obtain ⟨xa, hxa⟩ : ∃ xa, x.f.1 = xa := ⟨_, rfl⟩
      obtain ⟨xb, hxb⟩ : ∃ xb, x.f.2 = xb := ⟨_, rfl⟩
      rw [hxk] at k0
      rw [hxa] at k1
      rw [hxb] at k2
      obtain ⟨m, hm⟩ : ∃ m, (rkeys ((R.drop p).take (i - p))).length = m := ⟨_, rfl⟩
      have HM := Lib.hid (show m ≤ 10000 from by
        rw [← hm, rkeys_length]
        exact Nat.le_trans (by rw [List.length_take, List.length_drop]; exact Nat.le_trans (Nat.min_le_right _ _) (Nat.sub_le _ _)) HN.out.2)
      have HG := Lib.hid (show GatL w1 (rkeys ((R.drop p).take (i - p))) (((R.drop p).take (i - p)).map Rw.f) u6 u7 wr ∧ Vec wr.drew 1 u6 m (kcells (rkeys ((R.drop p).take (i - p)))) ∧ Vec wr.drew 2 u7 m (rcells (((R.drop p).take (i - p)).map Rw.f)) from ⟨hg, hm ▸ hg.k.drew, hm ▸ hg.v.drew⟩)
      have HS4 := Lib.hid (fun w' (ho : Only (fun b => u6.ownBlock = some b ∨ u7.ownBlock = some b) wr w') => show w'.cell? ⟨r, 0, none⟩ = some (.slice (some ⟨g, o, none⟩) n c) ∧ w'.cell? ⟨g, o + i * 6, none⟩ = some (.string xk) ∧ w'.cell? ⟨g, o + i * 6 + 2, none⟩ = some (.int .i64 xa) ∧ w'.cell? ⟨g, o + i * 6 + 2 + 1, none⟩ = some (.int .i64 xb) ∧ w'.cell? ⟨g, o + i * 6 + 3, none⟩ = some (.int .i64 xb) from
        ⟨hg.keep ho HC.out, hg.keep ho k0, hg.keep ho k1, hg.keep ho k2, hg.keep ho k2⟩)
      have HNX := Lib.hid (fun kv' av' w2 (ho : Only (fun b => u6.ownBlock = some b ∨ u7.ownBlock = some b) wr w2) (hk : Vec w2 1 kv' (m + 1) (kcells (rkeys ((R.drop p).take (i - p))) ++ [.string xk])) (hv : Vec w2 2 av' (m + 1) (rcells (((R.drop p).take (i - p)).map Rw.f) ++ [.int .i64 xa, .int .i64 xb])) (n1 : Nw wr.heap.size w2.heap.size u6 kv') (n2 : Nw wr.heap.size w2.heap.size u7 av') (hap : ∀ g, wr.heap.size ≤ g → kv'.ownBlock = some g → av'.ownBlock ≠ some g) =>
        show GatL w1 (rkeys ((R.drop p).take (i + 1 - p))) (((R.drop p).take (i + 1 - p)).map Rw.f) kv' av' w2 from by
          have hnx := hg.next xk xa xb ho (hm.symm ▸ hk) (hm.symm ▸ hv) n1 n2 hap
          rw [from_next hx hpi]
          unfold rkeys at hnx ⊢
          rw [List.map_append, List.map_append]
          rw [← hxk, ← hxa, ← hxb] at hnx
          exact hnx)
      clear hg hw hcl hv hx hxk hxa hxb k0 k1 k2 hm
      go_wp2_with fail
      refine wp_region_D_drew (D := (fun i => [0, 1, 2, 3, 5, 11, 12, 13, 14, 16].contains i)) (S := (fun w' => w'.cell? ⟨r, 0, none⟩ = some (.slice (some ⟨g, o, none⟩) n c) ∧ w'.cell? ⟨g, o + i * 6, none⟩ = some (.string xk) ∧ w'.cell? ⟨g, o + i * 6 + 2, none⟩ = some (.int .i64 xa) ∧ w'.cell? ⟨g, o + i * 6 + 2 + 1, none⟩ = some (.int .i64 xb) ∧ w'.cell? ⟨g, o + i * 6 + 3, none⟩ = some (.int .i64 xb))) (by kernel_rfl) ?_ (fun hHeld => ?_)
      · exact HS4.out _ (Only.refl _ _).drew
      (refine takeD (i := 0) (some 27) (v := ?_) rfl (by rfl) (by rfl) (by kernel_rfl) (by rfl) (fun _ _ _ h => h) ?_ ?_; rotate_left; (intro w; go_simp; try with_reducible rfl); try go_frame)
      (refine takeD (i := 1) (some 28) (v := ?_) rfl (by rfl) (by rfl) (by kernel_rfl) (by rfl) (fun _ _ _ h => h) ?_ ?_; rotate_left; (intro w; go_simp; try with_reducible rfl); try go_frame)
      (refine takeD (i := 2) (some 29) (v := ?_) rfl (by rfl) (by rfl) (by kernel_rfl) (by rfl) (fun _ _ _ h => h) ?_ ?_; rotate_left; (intro w; go_simp; try with_reducible rfl); try go_frame)
      (refine takeD (i := 3) (some 30) (v := ?_) rfl (by rfl) (by rfl) (by kernel_rfl) (by rfl) (fun _ _ _ h => h) ?_ ?_; rotate_left; (intro w; go_simp; try with_reducible rfl); try go_frame)
      (refine takeD (i := 5) (some 32) (v := ?_) rfl (by rfl) (by rfl) (by kernel_rfl) (by rfl) (fun _ _ _ h => h) ?_ ?_; rotate_left; (intro w; go_simp; try with_reducible rfl); try go_frame)
      (refine takeD (i := 11) (some 38) (v := ?_) rfl (by rfl) (by rfl) (by kernel_rfl) (by rfl) (fun _ _ _ h => h) ?_ ?_; rotate_left; (intro w; go_simp; try with_reducible rfl); try go_frame)
      (refine takeD (i := 12) (some 39) (v := ?_) rfl (by rfl) (by rfl) (by kernel_rfl) (by rfl) (fun _ _ _ h => h) ?_ ?_; rotate_left; (intro w; go_simp; try with_reducible rfl); try go_frame)
      (refine takeD (i := 13) (some 40) (v := ?_) rfl (by rfl) (by rfl) (by kernel_rfl) (by rfl) (fun _ _ _ h => h) ?_ ?_; rotate_left; (intro w; go_simp; try with_reducible rfl); try go_frame)
      (refine takeD (i := 14) (some 41) (v := ?_) rfl (by rfl) (by rfl) (by kernel_rfl) (by rfl) (fun _ _ _ h => h) ?_ ?_; rotate_left; (intro w; go_simp; try with_reducible rfl); try go_frame)
      (refine takeD (i := 16) (some 43) (v := ?_) rfl (by rfl) (by rfl) (by kernel_rfl) (by rfl) (fun _ _ _ h => h) ?_ ?_; rotate_left; (intro w; go_simp; try with_reducible rfl); try go_frame)
      (refine takeS (i := 4) (some 31) (v := ?_) rfl (by rfl) (by rfl) (by kernel_rfl) (by rfl) (fun _ _ _ h => h) (by assumption) ?_ ?_; rotate_left; (intro w hSw; (try dsimp only at hSw); go_simp; try with_reducible rfl); try go_frame)
      (refine takeS (i := 6) (some 33) (v := ?_) rfl (by rfl) (by rfl) (by kernel_rfl) (by rfl) (fun _ _ _ h => h) (by assumption) ?_ ?_; rotate_left; (intro w hSw; (try dsimp only at hSw); go_simp; try with_reducible rfl); try go_frame)
      (refine takeS (i := 7) (some 34) (v := ?_) rfl (by rfl) (by rfl) (by kernel_rfl) (by rfl) (fun _ _ _ h => h) (by assumption) ?_ ?_; rotate_left; (intro w hSw; (try dsimp only at hSw); go_simp; try with_reducible rfl); try go_frame)
      (refine takeS (i := 8) (some 35) (v := ?_) rfl (by rfl) (by rfl) (by kernel_rfl) (by rfl) (fun _ _ _ h => h) (by assumption) ?_ ?_; rotate_left; (intro w hSw; (try dsimp only at hSw); go_simp; try with_reducible rfl); try go_frame)
      (refine takeS (i := 15) (some 42) (v := ?_) rfl (by rfl) (by rfl) (by kernel_rfl) (by rfl) (fun _ _ _ h => h) (by assumption) ?_ ?_; rotate_left; (intro w hSw; (try dsimp only at hSw); go_simp; try with_reducible rfl); try go_frame)
      (refine takeS (i := 17) (some 44) (v := ?_) rfl (by rfl) (by rfl) (by kernel_rfl) (by rfl) (fun _ _ _ h => h) (by assumption) ?_ ?_; rotate_left; (intro w hSw; (try dsimp only at hSw); go_simp; try with_reducible rfl); try go_frame)
      (refine takeS (i := 18) (some 45) (v := ?_) rfl (by rfl) (by rfl) (by kernel_rfl) (by rfl) (fun _ _ _ h => h) (by assumption) ?_ ?_; rotate_left; (intro w hSw; (try dsimp only at hSw); go_simp; try with_reducible rfl); try go_frame)
      (refine takeS (i := 19) (some 46) (v := ?_) rfl (by rfl) (by rfl) (by kernel_rfl) (by rfl) (fun _ _ _ h => h) (by assumption) ?_ ?_; rotate_left; (intro w hSw; (try dsimp only at hSw); go_simp; try with_reducible rfl); try go_frame)
      refine wpAnyD_merged (J := AppQ wr u6 u7 m (kcells (rkeys ((R.drop p).take (i - p)))) (rcells (((R.drop p).take (i - p)).map Rw.f)) (.string xk) (.int .i64 xa) (.int .i64 xb)) [(9, 36), (10, 37), (20, 47), (21, 48)] (fun i => if i = 10 then [9] else if i = 21 then [20, 10] else []) #[true, true, true, true, true, true, true, true, true, true, true, true, true, true, true, true, true, true, true, true, true, true, false, false] rfl (by kernel_rfl) (by kernel_rfl) ?_ ?_ ?_ ?_
      · intro L xs w' hJ
        exact HS4.out _ hJ.all
      · intro xs
        refine AppQ.start (still_drew wr) HG.out.2.1 HG.out.2.2 ?_
        intro j hj
        simp only [List.mem_cons, List.not_mem_nil, or_false] at hj
        rcases hj with rfl | rfl | rfl | rfl <;> kernel_rfl
      · intro pp hp
        simp only [List.mem_cons, List.not_mem_nil, or_false] at hp
        rcases hp with rfl | rfl | rfl | rfl
        · refine StepM.of rfl (fun L xs w' hd hl hJ K hK => ?_)
          (unfold fillA; simp only [List.foldl]; try go_frame)
          go_simp
          refine hK.out _ _ (hJ.b1' _) _ (by kernel_rfl)
        · refine StepM.of rfl (fun L xs w' hd hl hJ K hK => ?_)
          obtain ⟨g', hg', hb, hgw⟩ := hJ.b1 (hd 9 (by simp))
          refine step_append_vec rfl _ _ 42 rfl 9 i0 _ 1 16 Tryz.underlying42 HI.out.1 HI.out.2.1 HI.out.2.2.1 HI.out.2.2.2 rfl (by decide) u6 m _ ?_ (hJ.a0 hl) (.slice (some ⟨g', 0, none⟩) 1 1) 1 [.string xk] ?_ (hb.reads rfl) (by intro u hu; simp at hu; rw [hu]; rfl) (by have := HM.out; simp only [maxLen]; omega) (by have := HM.out; omega) ?_
          · (unfold fillA; simp only [List.foldl]; try go_frame)
            simp [Act.eval]
          · (unfold fillA; simp only [List.foldl]; try go_frame)
            simp [Act.eval, hg']
          · intro v' w2 hv' ho' hb'
            exact hK.out _ _ (hJ.c1' hl (fun g hg => (HG.out.1.ok g hg).2) HG.out.1.ap hv' ho' hb') _ rfl
        · refine StepM.of rfl (fun L xs w' hd hl hJ K hK => ?_)
          (unfold fillA; simp only [List.foldl]; try go_frame)
          go_simp
          refine hK.out _ _ (hJ.b2' _) _ (by kernel_rfl)
        · refine StepM.of rfl (fun L xs w' hd hl hJ K hK => ?_)
          obtain ⟨g', hg', hb, hgw⟩ := hJ.b2 (hd 20 (by simp))
          refine step_append_vec rfl _ _ 43 rfl 31 i1 _ 2 16 Tryz.underlying43 HJ.out.1 HJ.out.2.1 HJ.out.2.2.1 HJ.out.2.2.2 rfl (by decide) u7 m _ ?_ (hJ.c0 hl) (.slice (some ⟨g', 0, none⟩) 1 1) 1 [.int .i64 xa, .int .i64 xb] ?_ (hb.reads rfl) (by intro u hu; simp at hu; rcases hu with hu | hu <;> (rw [hu]; rfl)) (by have := HM.out; simp only [maxLen]; omega) (by have := HM.out; omega) ?_
          · (unfold fillA; simp only [List.foldl]; try go_frame)
            simp [Act.eval]
          · (unfold fillA; simp only [List.foldl]; try go_frame)
            simp [Act.eval, hg']
          · intro v' w2 hv' ho' hb'
            exact hK.out _ _ (hJ.c2' (hd 10 (by simp)) (fun g hg => (HG.out.1.ok g hg).2) (fun g hg => (HG.out.1.ov g hg).2) HG.out.1.ap hv' ho' hb') _ rfl
      · intro xs w' hJ
        (unfold fillA; simp only [List.foldl]; try go_frame)
        obtain ⟨_, q2, q3, q4⟩ := hJ.c1 (by kernel_rfl)
        obtain ⟨r2', r3⟩ := hJ.a1 (by kernel_rfl)
        have hend := HNX.out _ _ _ hJ.all r2' q2 r3 q3 q4
        have HEND := Lib.hid hend
        have hHeld2 := HS4.out _ hJ.all
        clear hJ q2 q3 q4 r2' r3 hend
        generalize xs 10 = v3 at *
        generalize xs 21 = v10 at *
        (refine takeS (i := 22) (some 6) (v := ?_) rfl (by rfl) (by rfl) (by kernel_rfl) (by rfl) (fun _ _ _ h => h) (by assumption) ?_ ?_; rotate_left; (intro w hSw; (try dsimp only at hSw); go_simp; try with_reducible rfl); try go_frame)
        (refine takeS (i := 23) (some 7) (v := ?_) rfl (by rfl) (by rfl) (by kernel_rfl) (by rfl) (fun _ _ _ h => h) (by assumption) ?_ ?_; rotate_left; (intro w hSw; (try dsimp only at hSw); go_simp; try with_reducible rfl); try go_frame)
        refine wpAnyD_done (by kernel_rfl) ?_ _
        rotate_left
        go_wp2_with fail
        go_roundw
        case rel => exact ⟨i + 1, by go_num, by omega, by omega, HEND.out⟩
        case measure => simp [intOf]; omega
    · have hie : i = n := by omega
      have d1 : decide ((i : Int) < (n : Int)) = false := by simp; omega
      have d2 : decide (i < n) = false := by simp; omega
      have F0 := Lib.hid (show TwoL w (rkeys (R.drop p)) ((R.drop p).map Rw.f) (.returned (.tuple #[u6, u7])) wr from by
        have h1 := GatL.told HS1.out hg
        rw [hie, List.take_of_length_le (by rw [List.length_drop, HN.out.1]; exact Nat.le_refl _)] at h1
        exact ⟨_, _, rfl, h1.1, h1.2⟩)
      clear hg hie
      go_wp2_with fail
      go_ret2
      exact F0.out
end Go.Proofs.YtedfijmaeoednaaGreatDoor

namespace Go.Proofs.YtedfijmaeoednaaGreatDoor
open Go.RowKit Go.Wh Go.Proofs.YtedfijmaeoednaaGreatDoor.Tw

def NilPost (w : World) (v : Value) (e : Ending) (w' : World) : Prop := e = .returned v ∧ Still w w'
set_option maxHeartbeats 1000000 in
theorem has_nil (w : World) (k : Key) : Calls Tryz.prog 26 #[.pointer none, .string k] w (NilPost w (.tuple #[.agg #[.int .i64 0, .int .i64 0, .string ⟨#[]⟩], .int .i64 1])) := by
  have ST := Lib.hid (fun ob => show Still w (w.alloc ob) from (Still.refl w).alloc ob)
  have B0 := Lib.hid (fun tt => cellsAt_new w [.int .i64 0, .int .i64 0, .string ⟨#[]⟩] tt)
  go_enter Tryz.func26, Tryz.ntmps26
  go_wp2_with fail
  have SW := Lib.hid (ST.out (.cells #[.int .i64 0, .int .i64 0, .string ⟨#[]⟩] 58))
  have hbb := B0.out 58
  clear B0 ST
  generalize w.alloc _ = W at *
  generalize hbx : w.heap.size = bx at *
  have HB := Lib.hid hbx
  clear hbx
  have q0 : W.cell? ⟨bx, 0, none⟩ = some (.int .i64 0) := hbb.cell 0
  have q1 : W.cell? ⟨bx, 1, none⟩ = some (.int .i64 0) := hbb.cell 1
  have q2 : W.cell? ⟨bx, 2, none⟩ = some (.string ⟨#[]⟩) := hbb.cell 2
  have f0 : W.frozen? ⟨bx, 0, none⟩ = false := hbb.free 0
  have f1 : W.frozen? ⟨bx, 1, none⟩ = false := hbb.free 1
  have f2 : W.frozen? ⟨bx, 2, none⟩ = false := hbb.free 2
  have FIN := Lib.hid (fun W' (ho : Only (fun c => bx ≤ c) W W') => show Still w W' from still_of (SW.out.only.trans ho) fun c hc e => by have := HB.out; omega)
  have hlt := hbb.lt
  have hne : ¬ (W.heap.size = bx) := by omega
  clear hbb
  go_wp2_with fail
  (try simp only [Exit.inBlock, Exit.then])
  refine bodyPost_ret (v := .tuple #[.agg #[.int .i64 0, .int .i64 0, .string ⟨#[]⟩], .int .i64 1]) ?_ rfl ⟨rfl, FIN.out _ (by repeat (first | exact Only.refl _ _ | refine Only.alloc ?_ _ | refine Only.setCell ?_ (Or.inl ?_) _ | exact Nat.le_refl _))⟩
  rw [results_cell_tmp rfl]
  go_simp

set_option maxHeartbeats 1000000 in
theorem find_nil (w : World) (k : Key) : Calls Tryz.prog 16 #[.pointer none, .string k] w (NilPost w (.tuple #[.agg #[.int .i64 0, .int .i64 0], .int .i64 1])) := by
  have ST := Lib.hid (fun ob => show Still w (w.alloc ob) from (Still.refl w).alloc ob)
  have B0 := Lib.hid (fun tt => cellsAt_new w [.int .i64 0, .int .i64 0] tt)
  have HN := Lib.hid (fun w' => has_nil w' k)
  go_enter Tryz.func16, Tryz.ntmps16
  go_wp2_with fail
  have SW := Lib.hid (ST.out (.cells #[.int .i64 0, .int .i64 0] 31))
  have B1 := Lib.hid (B0.out 31)
  clear B0 ST
  generalize w.alloc _ = W at *
  generalize hbx : w.heap.size = bx at *
  have HB := Lib.hid hbx
  clear hbx
  refine (HN.out _).mono ?_
  rintro e w2 ⟨rfl, hs⟩
  have hbb : cellsAt w2 bx [.int .i64 0, .int .i64 0] := cellsAt.still hs B1.out
  have q0 : w2.cell? ⟨bx, 0, none⟩ = some (.int .i64 0) := hbb.cell 0
  have q1 : w2.cell? ⟨bx, 1, none⟩ = some (.int .i64 0) := hbb.cell 1
  have f0 : w2.frozen? ⟨bx, 0, none⟩ = false := hbb.free 0
  have f1 : w2.frozen? ⟨bx, 1, none⟩ = false := hbb.free 1
  have FIN := Lib.hid (fun W' (ho : Only (fun c => bx ≤ c) w2 W') => show Still w W' from still_of ((SW.out.trans hs).only.trans ho) fun c hc e => by have := HB.out; omega)
  have hlt := hbb.lt
  have hne : ¬ (w2.heap.size = bx) := by omega
  clear hbb hs HN
  go_wp2_with fail
  (try simp only [Exit.inBlock, Exit.then])
  refine bodyPost_ret (v := .tuple #[.agg #[.int .i64 0, .int .i64 0], .int .i64 1]) ?_ rfl ⟨rfl, FIN.out _ (by repeat (first | exact Only.refl _ _ | refine Only.alloc ?_ _ | refine Only.setCell ?_ (Or.inl ?_) _ | exact Nat.le_refl _))⟩
  rw [results_cell_tmp rfl]
  go_simp

set_option maxHeartbeats 1000000 in
theorem cut_nil (w : World) (k : Key) : Calls Tryz.prog 8 #[.pointer none, .string k] w (NilPost w (.int .i64 1)) := by
  have HN := Lib.hid (fun w' => has_nil w' k)
  go_enter Tryz.func8, Tryz.ntmps8
  go_wp2_with fail
  refine (HN.out _).mono ?_
  rintro e w2 ⟨rfl, hs⟩
  have F := Lib.hid (fun ob => show Still w (w2.alloc ob) from hs.alloc ob)
  have F0 := Lib.hid hs
  clear hs HN
  go_wp2_with fail
  all_goals
    go_ret
    exact ⟨rfl, by first | exact F0.out | exact F.out _⟩
set_option maxHeartbeats 1000000 in
theorem move_nil (w : World) (k : Key) (a b : Int) : Calls Tryz.prog 10 #[.pointer none, .string k, .agg #[.int .i64 a, .int .i64 b]] w (NilPost w (.int .i64 1)) := by
  have HN := Lib.hid (fun w' => has_nil w' k)
  have ST := Lib.hid (fun ob => show Still w (w.alloc ob) from (Still.refl w).alloc ob)
  have S0 := Lib.hid (Still.refl w)
  go_enter Tryz.func10, Tryz.ntmps10
  go_wp2_with fail
  refine (HN.out _).mono ?_
  rintro e w2 ⟨rfl, hs⟩
  have hs' : Still w w2 := by first | exact S0.out.trans hs | exact (ST.out _).trans hs
  have F := Lib.hid (fun ob => show Still w (w2.alloc ob) from hs'.alloc ob)
  have F0 := Lib.hid hs'
  clear hs hs' HN
  go_wp2_with fail
  all_goals
    go_ret
    exact ⟨rfl, by first | exact F0.out | exact F.out _⟩
set_option maxHeartbeats 1000000 in
theorem mend_nil (w : World) (k : Key) : Calls Tryz.prog 12 #[.pointer none, .string k] w (NilPost w (.int .i64 1)) := by
  have HN := Lib.hid (fun w' => has_nil w' k)
  go_enter Tryz.func12, Tryz.ntmps12
  go_wp2_with fail
  refine (HN.out _).mono ?_
  rintro e w2 ⟨rfl, hs⟩
  have F := Lib.hid (fun ob => show Still w (w2.alloc ob) from hs.alloc ob)
  have F0 := Lib.hid hs
  clear hs HN
  go_wp2_with fail
  all_goals
    go_ret
    exact ⟨rfl, by first | exact F0.out | exact F.out _⟩
set_option maxHeartbeats 1000000 in
theorem put_nil (w : World) (a b c : Key) (p q : Int) : Calls Tryz.prog 14 #[.pointer none, .agg #[.string a, .string b, .string c], .agg #[.int .i64 p, .int .i64 q]] w (NilPost w (.int .i64 1)) := by
  have S0 := Lib.hid (fun A B => show Still w ((w.alloc A).alloc B) from ((Still.refl w).alloc A).alloc B)
  go_enter Tryz.func14, Tryz.ntmps14
  go_wp2_with fail
  go_ret
  exact ⟨rfl, S0.out _ _⟩
theorem seek_nil (w : World) (s : Key) : Calls Tryz.prog 18 #[.pointer none, .string s] w (NilPost w (.tuple #[.slice none 0 0, .slice none 0 0])) := by
  go_enter Tryz.func18, Tryz.ntmps18
  go_wp2_with fail
  go_ret2
  exact ⟨rfl, Still.refl _⟩
theorem len_nil (w : World) : Calls Tryz.prog 21 #[.pointer none] w (NilPost w (.int .i64 0)) := by
  go_enter Tryz.func21, Tryz.ntmps21
  go_wp2_with fail
  go_ret
  exact ⟨rfl, Still.refl _⟩
end Go.Proofs.YtedfijmaeoednaaGreatDoor

namespace Go.Proofs.YtedfijmaeoednaaGreatDoor
open Go.RowKit Go.Wh Go.Proofs.YtedfijmaeoednaaGreatDoor.Tw

def SamePost (w : World) (e : Ending) (w' : World) : Prop := e = .returned (.bool true) ∧ Still w w'

set_option maxHeartbeats 1000000 in
set_option maxRecDepth 100000 in
theorem same_any (w : World) (ks : List Key) (vs : List Rid) (kv vv kv2 vv2 : Value) (hln : vs.length = ks.length) (h1 : Vec w 1 kv ks.length (kcells ks)) (h2 : Vec w 2 vv ks.length (rcells vs)) (h3 : Vec w 1 kv2 ks.length (kcells ks)) (h4 : Vec w 2 vv2 ks.length (rcells vs)) (hl : ks.length ≤ 90000) :
    Calls Tryz.prog 20 #[kv, kv2, vv, vv2] w (SamePost w) := by
  have H := Lib.hid (And.intro h1 (And.intro h2 (And.intro h3 h4)))
  obtain ⟨n, hn⟩ : ∃ n, ks.length = n := ⟨_, rfl⟩
  have HN := Lib.hid (And.intro hn hl)
  obtain ⟨a1, c1, rfl⟩ := h1.form'
  obtain ⟨a2, c2, rfl⟩ := h2.form'
  obtain ⟨a3, c3, rfl⟩ := h3.form'
  obtain ⟨a4, c4, rfl⟩ := h4.form'
  rw [hn] at H ⊢
  clear h1 h2 h3 h4 hn hl
  go_enter Tryz.func20, Tryz.ntmps20
  go_wp2_with fail
  go_loopw [9] (fun s wr => ∃ i : Nat, s = .int .i64 i ∧ i ≤ n ∧ Still w wr) (fun s _ => n - (intOf s).toNat)
  case atStart => exact ⟨0, rfl, Nat.zero_le _, Still.refl _⟩
  case round =>
    obtain ⟨i, rfl, hi, hst⟩ := hrel
    have HST := Lib.hid hst
    clear hst
    by_cases hin : i < n
    · obtain ⟨g1, o1, d1, e1, v1⟩ := H.out.1.form (by omega)
      obtain ⟨g2, o2, d2, e2, v2⟩ := H.out.2.1.form (by omega)
      obtain ⟨g3, o3, d3, e3, v3⟩ := H.out.2.2.1.form (by omega)
      obtain ⟨g4, o4, d4, e4, v4⟩ := H.out.2.2.2.form (by omega)
      injection e1 with e1 _ f1
      injection e2 with e2 _ f2
      injection e3 with e3 _ f3
      injection e4 with e4 _ f4
      subst e1 e2 e3 e4 f1 f2 f3 f4
      obtain ⟨x, hx⟩ : ∃ x, ks[i]? = some x := ⟨_, List.getElem?_eq_getElem (by rw [HN.out.1]; exact hin)⟩
      obtain ⟨y, hy⟩ : ∃ y, vs[i]? = some y := ⟨_, List.getElem?_eq_getElem (by rw [hln, HN.out.1]; exact hin)⟩
      have q1 : wr.cell? ⟨g1, o1 + i, none⟩ = some (.string x) := Still.cell HST.out (by rw [v1.cell i (by omega)]; exact kcells_get hx)
      have q3 : wr.cell? ⟨g3, o3 + i, none⟩ = some (.string x) := Still.cell HST.out (by rw [v3.cell i (by omega)]; exact kcells_get hx)
      have q2 : wr.cell? ⟨g2, o2 + i * 2, none⟩ = some (.int .i64 y.1) := Still.cell HST.out (by rw [v2.cell (i * 2) (by omega)]; exact (rcells_get _ i y hy).1)
      have q2' : wr.cell? ⟨g2, o2 + i * 2 + 1, none⟩ = some (.int .i64 y.2) := Still.cell HST.out (by rw [Nat.add_assoc, v2.cell (i * 2 + 1) (by omega)]; exact (rcells_get _ i y hy).2)
      have q4 : wr.cell? ⟨g4, o4 + i * 2, none⟩ = some (.int .i64 y.1) := Still.cell HST.out (by rw [v4.cell (i * 2) (by omega)]; exact (rcells_get _ i y hy).1)
      have q4' : wr.cell? ⟨g4, o4 + i * 2 + 1, none⟩ = some (.int .i64 y.2) := Still.cell HST.out (by rw [Nat.add_assoc, v4.cell (i * 2 + 1) (by omega)]; exact (rcells_get _ i y hy).2)
      have b1 : decide ((i : Int) < (n : Int)) = true := by simp; omega
      have b2 : decide (i < n) = true := by simp; omega
      have b3 : (0 : Int) ≤ (i : Int) := by omega
      have b4 : (i : Int) < (n : Int) := by omega
      have u9 : IntKind.i64.wrap ((i : Int) + 1) = (i : Int) + 1 := IntWalk.i64_in _ (by have := HN.out; omega)
      clear hx hy v1 v2 v3 v4
      go_wp2_with fail
      go_quiet (fail)
      go_wp2_with fail
      go_roundw
      case rel => exact ⟨i + 1, by go_num, by omega, HST.out.drewN _⟩
      case measure => simp [intOf]; omega
    · have hge : i = n := by omega
      subst hge
      have b1 : decide ((i : Int) < (i : Int)) = false := by simp
      have F := Lib.hid (show SamePost w (.returned (.bool true)) wr from ⟨rfl, HST.out⟩)
      go_wp2_with fail
      go_ret
      exact F.out
/-- What was told twice is the same. -/
theorem same_told {w1 w1' w2 w2' w : World} {ks : List Key} {vs : List Rid} {kv vv kv2 vv2 : Value} (h1 : Lists w1 w1' ks vs kv vv) (s1 : Still w1' w) (h2 : Lists w2 w2' ks vs kv2 vv2) (s2 : Still w2' w) (hln : vs.length = ks.length) (hl : ks.length ≤ 90000) : Calls Tryz.prog 20 #[kv, kv2, vv, vv2] w (SamePost w) :=
  same_any w ks vs kv vv kv2 vv2 hln (h1.k.only s1 fun _ _ e => e) (hln ▸ h1.v.only s1 fun _ _ e => e) (h2.k.only s2 fun _ _ e => e) (hln ▸ h2.v.only s2 fun _ _ e => e) hl
end Go.Proofs.YtedfijmaeoednaaGreatDoor

namespace Go.Proofs.YtedfijmaeoednaaGreatDoor
open Go.RowKit Go.Wh Go.Proofs.YtedfijmaeoednaaGreatDoor.Tw

theorem OwnX.avoid2 {w0 w w' : World} {A B S : Nat → Prop} {x : Nat} {R : List Rw} (h : OwnX w0 A w x R) (hs : Only S w w') (hS : ∀ b, S b → A b) (h0 : ¬ S 0) (hB : ∀ b, B b → w.heap.size ≤ b ∧ b < w'.heap.size) : OwnX w0 (fun b => A b ∨ B b) w' x R := by
  obtain ⟨F, h1, h2, h3⟩ := h
  refine ⟨F, h1.only hs (fun b hb e => (h2 b hb).2 (hS b e)) h0, fun b hb => ⟨(h2 b hb).1, fun e => ?_⟩, fun b hb => ?_⟩
  · rcases e with e | e
    · exact (h2 b hb).2 e
    · have := h1.lt b hb
      have := (hB b e).1
      omega
  · rcases hb with e | e
    · exact Nat.lt_of_lt_of_le (h3 b e) hs.size
    · exact (hB b e).2

/-- An index and the reference's, apart. -/
structure TwoX (W : World) (A : Nat → Prop) (w : World) (x r : Nat) (R Q : List Rw) : Prop where
  own : OwnX W A w x R
  ref : ∃ lv, RxAt w r Q lv ∧ ∀ g, lv.ownBlock = some g → A g
  ra : A r
  rw_ : W.heap.size ≤ r
  pos : 0 < W.heap.size
  still : Still W w
/-- What was there, and is none of the index's, nor the reference's node, stays. -/
def KeepX (A : Nat → Prop) (r : Nat) (w w' : World) : Prop := ∀ p u, A p.block → p.block ≠ r → w.cell? p = some u → w'.cell? p = some u

section
variable {W w w' : World} {A : Nat → Prop} {x r : Nat} {R R' Q Q' : List Rw} {k : Key} {v : Rid}
theorem TwoX.later (h : TwoX W A w x r R Q) (hs : Still w w') : TwoX W A w' x r R Q := by
  obtain ⟨lv, h1, h2⟩ := h.ref
  exact ⟨h.own.still hs, ⟨lv, h1.still hs, h2⟩, h.ra, h.rw_, h.pos, h.still.trans hs⟩
/-- What is made later is none of either. -/
theorem TwoX.avoid {B : Nat → Prop} (h : TwoX W A w x r R Q) (hs : Still w w') (hB : ∀ b, B b → w.heap.size ≤ b ∧ b < w'.heap.size) : TwoX W (fun b => A b ∨ B b) w' x r R Q := by
  obtain ⟨lv, h1, h2⟩ := h.ref
  exact ⟨h.own.avoid hs hB, ⟨lv, h1.still hs, fun g hg => .inl (h2 g hg)⟩, .inl h.ra, h.rw_, h.pos, h.still.trans hs⟩
theorem TwoX.start {w1 : World} (hw : Still W w) (ho : OwnX W (fun _ => False) w x []) (hp : 0 < W.heap.size) (tt : TypeId) (hw1 : w1 = w.alloc (.cells #[.slice none 0 0] tt)) : TwoX W (fun b => False ∨ b = w.heap.size) w1 x w.heap.size [] [] := by
  have hs : Still w w1 := by rw [hw1]; exact (Still.refl _).alloc _
  have hz : w1.heap.size = w.heap.size + 1 := by rw [hw1]; simp
  refine ⟨ho.avoid hs fun b hb => by omega, ⟨.slice none 0 0, ⟨?_, Vec.nil _ _, List.Pairwise.nil, (fun e => by cases e), (fun g e => by cases e)⟩, (fun g e => by cases e)⟩, .inr rfl, hw.size, hp, hw.trans hs⟩
  rw [hw1]
  exact cellsAt_new w [.slice none 0 0] tt
theorem TwoX.mine (h : TwoX W A w x r R Q) (ho : OwnX W A w' x R') (hm : Mine W A w w') : TwoX W A w' x r R' Q ∧ KeepX A r w w' := by
  obtain ⟨lv, h1, h2⟩ := h.ref
  exact ⟨⟨ho, ⟨lv, h1.only hm (fun e => e.2 h.ra) (fun g hg e => e.2 (h2 g hg)), h2⟩, h.ra, h.rw_, h.pos, hm.still h.still⟩, fun p u hp _ hc => hm.cell hc hp⟩
theorem TwoX.refTo (h : TwoX W A w x r R Q) {lv u : Value} {e : Ending} (h2 : ∀ g, lv.ownBlock = some g → A g) (hp : RxTo w r lv Q' u e w') : e = .returned u ∧ ∃ A', TwoX W A' w' x r R Q' ∧ KeepX A r w w' ∧ ∀ b, A b → A' b := by
  obtain ⟨he, lv', q1, q2, q3⟩ := hp
  have hr := h.rw_
  have hpos := h.pos
  refine ⟨he, fun b => A b ∨ (w.heap.size ≤ b ∧ lv'.ownBlock = some b), ⟨h.own.avoid2 q2 (fun b e => (show b = r from e) ▸ h.ra) (fun e => by have e' : 0 = r := e; omega) fun b hb => ⟨hb.1, q1.bk b hb.2⟩, ⟨lv', q1, fun g hg => ?_⟩, .inl h.ra, h.rw_, h.pos, ?_⟩, fun p u _ hr hc => (Only.cell q2 (World.block_lt_of_cell? _ _ hc) hr).trans hc, fun b hb => .inl hb⟩
  · rcases q3 g hg with e | e
    · exact .inl (h2 g e)
    · exact .inr ⟨e, hg⟩
  · exact h.still.andThen q2 fun i hi e => by have e' : i = r := e; omega

/-- What a turn of the index's answers; then of the reference's. -/
def PxA (W : World) (A : Nat → Prop) (w : World) (x r : Nat) (R' Q : List Rw) (u : Value) (e : Ending) (w' : World) : Prop := e = .returned u ∧ TwoX W A w' x r R' Q ∧ KeepX A r w w'
def PxB (W : World) (A : Nat → Prop) (w : World) (x r : Nat) (R Q' : List Rw) (u : Value) (e : Ending) (w' : World) : Prop := e = .returned u ∧ ∃ A', TwoX W A' w' x r R Q' ∧ KeepX A r w w' ∧ ∀ b, A b → A' b
theorem TwoX.px (h : TwoX W A w x r R Q) {u : Value} {e : Ending} (hp : OxPost W A w x R' u e w') : PxA W A w x r R' Q u e w' := ⟨hp.1, h.mine hp.2.1 hp.2.2⟩

theorem TwoX.cutA (h : TwoX W A w x r R Q) (hl : R.length ≤ 1000) (key : Key) {u : Value} (hR : delR R key = R') (hE : errOf (getR R key) = u) :
    Calls Tryz.prog 8 #[.pointer (some ⟨x, 0, none⟩), .string key] w (PxA W A w x r R' Q u) := (ox_cut h.own hl h.still key hR hE).mono fun _ _ hp => h.px hp
theorem TwoX.moveA (h : TwoX W A w x r R Q) (hl : R.length ≤ 1000) (key : Key) (p q : Int) {u : Value} (hR : moveR R key (p, q) = R') (hE : errOf (getR R key) = u) :
    Calls Tryz.prog 10 #[.pointer (some ⟨x, 0, none⟩), .string key, .agg #[.int .i64 p, .int .i64 q]] w (PxA W A w x r R' Q u) := (ox_move h.own hl h.still key p q hR hE).mono fun _ _ hp => h.px hp
theorem TwoX.mendA (h : TwoX W A w x r R Q) (hl : R.length ≤ 1000) (key : Key) {u : Value} (hR : mendR R key = R') (hE : errOf (getR R key) = u) :
    Calls Tryz.prog 12 #[.pointer (some ⟨x, 0, none⟩), .string key] w (PxA W A w x r R' Q u) := (ox_mend h.own hl h.still key hR hE).mono fun _ _ hp => h.px hp
theorem TwoX.putA (h : TwoX W A w x r R Q) (hl : R.length ≤ 1000) (key sec val : Key) (p q : Int) (hk : key.size ≤ 1000) (hs : sec.size ≤ 1000) (hv : val.size ≤ 1000) {er : Int} (hR : putR R key sec val (p, q) = R') (hE : putE R key sec val = er) :
    Calls Tryz.prog 14 #[.pointer (some ⟨x, 0, none⟩), .agg #[.string key, .string sec, .string val], .agg #[.int .i64 p, .int .i64 q]] w (PxA W A w x r R' Q (.int .i64 er)) := (ox_put h.own hl h.still key sec val p q hk hs hv hR hE).mono fun _ _ hp => h.px hp

theorem TwoX.cutB (h : TwoX W A w x r R Q) (hl : Q.length ≤ 1000) (key : Key) {u : Value} (hR : delR Q key = Q') (hE : errOf (getR Q key) = u) :
    Calls Tryz.prog 9 #[.pointer (some ⟨r, 0, none⟩), .string key] w (PxB W A w x r R Q' u) := by
  obtain ⟨lv, h1, h2⟩ := h.ref
  subst hR hE
  exact (rxcut_any w r Q lv key h1 (by omega)).mono fun _ _ hp => h.refTo h2 hp
theorem TwoX.moveB (h : TwoX W A w x r R Q) (hl : Q.length ≤ 1000) (key : Key) (p q : Int) {u : Value} (hR : moveR Q key (p, q) = Q') (hE : errOf (getR Q key) = u) :
    Calls Tryz.prog 11 #[.pointer (some ⟨r, 0, none⟩), .string key, .agg #[.int .i64 p, .int .i64 q]] w (PxB W A w x r R Q' u) := by
  obtain ⟨lv, h1, h2⟩ := h.ref
  subst hR hE
  exact (rxmove_any w r Q lv key (p, q) h1 (by omega)).mono fun _ _ hp => h.refTo h2 hp
theorem TwoX.mendB (h : TwoX W A w x r R Q) (hl : Q.length ≤ 1000) (key : Key) {u : Value} (hR : mendR Q key = Q') (hE : errOf (getR Q key) = u) :
    Calls Tryz.prog 13 #[.pointer (some ⟨r, 0, none⟩), .string key] w (PxB W A w x r R Q' u) := by
  obtain ⟨lv, h1, h2⟩ := h.ref
  subst hR hE
  exact (rxmend_any w r Q lv key h1 (by omega)).mono fun _ _ hp => h.refTo h2 hp
theorem TwoX.putB (h : TwoX W A w x r R Q) (hl : Q.length ≤ 1000) (key sec val : Key) (p q : Int) (hk : key.size ≤ 1000) (hs : sec.size ≤ 1000) (hv : val.size ≤ 1000) {er : Int} (hR : putR Q key sec val (p, q) = Q') (hE : putE Q key sec val = er) :
    Calls Tryz.prog 15 #[.pointer (some ⟨r, 0, none⟩), .agg #[.string key, .string sec, .string val], .agg #[.int .i64 p, .int .i64 q]] w (PxB W A w x r R Q' (.int .i64 er)) := by
  obtain ⟨lv, h1, h2⟩ := h.ref
  subst hR hE
  exact (rxput_any w r Q lv key sec val (p, q) h1 (by omega) hk hs hv).mono fun _ _ hp => h.refTo h2 hp

theorem TwoX.findA (h : TwoX W A w x r R Q) (key : Key) {o : Option Rw} (ho : getR R key = o) : Calls Tryz.prog 16 #[.pointer (some ⟨x, 0, none⟩), .string key] w (FindPost w o) := ox_find h.own key ho
theorem TwoX.findB (h : TwoX W A w x r R Q) (hl : Q.length ≤ 1000) (key : Key) {o : Option Rw} (ho : getR Q key = o) : Calls Tryz.prog 17 #[.pointer (some ⟨r, 0, none⟩), .string key] w (FindPost w o) := by
  obtain ⟨lv, h1, h2⟩ := h.ref
  subst ho
  exact rxget_any w r Q lv key h1 (by omega)
theorem TwoX.seekA (h : TwoX W A w x r R Q) (hl : R.length ≤ 1000) (s : Key) (hs : s.size ≤ 100) : Calls Tryz.prog 18 #[.pointer (some ⟨x, 0, none⟩), .string s] w (TwoL w (rkeys (seekR R s)) ((seekR R s).map Rw.n)) := ox_seek h.own hl s hs rfl
theorem TwoX.seekB (h : TwoX W A w x r R Q) (hl : Q.length ≤ 1000) (s : Key) : Calls Tryz.prog 19 #[.pointer (some ⟨r, 0, none⟩), .string s] w (TwoL w (rkeys (seekR Q s)) ((seekR Q s).map Rw.n)) := by
  obtain ⟨lv, h1, h2⟩ := h.ref
  exact rxseek_any w r Q lv s h1 (by omega)
theorem TwoX.fromA (h : TwoX W A w x r R Q) (hl : R.length ≤ 1000) (k : Key) : Calls Tryz.prog 22 #[.pointer (some ⟨x, 0, none⟩), .string k] w (TwoL w (rkeys (fromR R k)) ((fromR R k).map Rw.f)) := ox_from h.own hl k rfl
theorem TwoX.fromB (h : TwoX W A w x r R Q) (hl : Q.length ≤ 1000) (k : Key) : Calls Tryz.prog 23 #[.pointer (some ⟨r, 0, none⟩), .string k] w (TwoL w (rkeys (fromR Q k)) ((fromR Q k).map Rw.f)) := by
  obtain ⟨lv, h1, h2⟩ := h.ref
  exact rxfrom_any w r Q lv k h1 (by omega)
theorem TwoX.rlen (h : TwoX W A w x r R Q) : ∃ a c, w.cell? ⟨r, 0, none⟩ = some (.slice a Q.length c) := by
  obtain ⟨lv, h1, -⟩ := h.ref
  obtain ⟨a, c, rfl⟩ := h1.v.form'
  exact ⟨a, c, h1.cells.cell 0⟩
end

theorem errOf_int {α : Type} (o : Option α) : errOf o = .int .i64 (if o.isSome then 0 else 9) := by cases o <;> rfl
theorem ins_len (R : List Rw) (y : Rw) : (insR R y).length ≤ R.length + 1 := by
  show (R.take _ ++ y :: R.drop _).length ≤ _
  rw [List.length_append, List.length_take, List.length_cons, List.length_drop]
  have : pos (R.map Rw.key) y.key ≤ R.length := by have := pos_le (R.map Rw.key) y.key; rwa [List.length_map] at this
  split <;> omega
theorem del_len (R : List Rw) (k : Key) : (delR R k).length ≤ R.length := by
  show (if _ then R.take _ ++ R.drop _ else R).length ≤ _
  split
  · rw [List.length_append, List.length_take, List.length_drop]
    omega
  · exact Nat.le_refl _
theorem put_len (R : List Rw) (a b c : Key) (v : Rid) : (putR R a b c v).length ≤ R.length + 1 := by
  unfold putR
  split
  · split
    · omega
    · exact ins_len _ _
  · omega
theorem move_len (R : List Rw) (k : Key) (v : Rid) : (moveR R k v).length ≤ R.length + 1 := by
  unfold moveR
  split
  · exact ins_len _ _
  · omega
theorem mend_len (R : List Rw) (k : Key) : (mendR R k).length ≤ R.length + 1 := by
  unfold mendR
  split
  · exact ins_len _ _
  · omega

/-- A row of deeds, as it is handed in: each one's number, two texts, a place. -/
def Deeds (W : World) (a : Option Addr) (n : Nat) : Prop := ∀ i, i < n → ∃ b off kd key sec p c, a = some ⟨b, off, none⟩ ∧ W.cell? ⟨b, off + i * 5, none⟩ = some (.int .i64 kd) ∧ W.cell? ⟨b, off + i * 5 + 1, none⟩ = some (.string key) ∧ W.cell? ⟨b, off + i * 5 + 2, none⟩ = some (.string sec) ∧ W.cell? ⟨b, off + i * 5 + 3, none⟩ = some (.int .i64 p) ∧ W.cell? ⟨b, off + i * 5 + 4, none⟩ = some (.int .i64 c) ∧ -9223372036854775808 ≤ kd ∧ kd ≤ 9223372036854775807
end Go.Proofs.YtedfijmaeoednaaGreatDoor

namespace Go.Proofs.YtedfijmaeoednaaGreatDoor
open Go.RowKit Go.Wh Go.Proofs.YtedfijmaeoednaaGreatDoor.Tw

/-- Behind a deed. -/
def AllX (W : World) (x r i bx : Nat) (key sec : Key) (w : World) : Prop := ∃ R A, TwoX W A w x r R R ∧ R.length ≤ i + 1 ∧ w.cell? ⟨bx, 1, none⟩ = some (.string key) ∧ w.cell? ⟨bx, 2, none⟩ = some (.string sec)

/-- The copy of a deed. -/
abbrev BoxC (bx : Nat) (dk ds : Key) (p c : Int) (w : World) : Prop := w.cell? ⟨bx, 1, none⟩ = some (.string dk) ∧ w.cell? ⟨bx, 2, none⟩ = some (.string ds) ∧ w.cell? ⟨bx, 3, none⟩ = some (.int .i64 p) ∧ w.cell? ⟨bx, 4, none⟩ = some (.int .i64 c)
theorem KeepX.box {A : Nat → Prop} {r bx : Nat} {w w' : World} {dk ds : Key} {p c : Int} (h : KeepX A r w w') (k : BoxC bx dk ds p c w) (ha : A bx) (hr : bx ≠ r) : BoxC bx dk ds p c w' :=
  ⟨h _ _ ha hr k.1, h _ _ ha hr k.2.1, h _ _ ha hr k.2.2.1, h _ _ ha hr k.2.2.2⟩
theorem Lists.form {w w' : World} {ks : List Key} {vs : List Rid} {kv vv : Value} {n : Nat} (h : Lists w w' ks vs kv vv) (hn : ks.length = n ∧ vs.length = n) : ∃ ka kc va vc, kv = .slice ka n kc ∧ vv = .slice va n vc := by
  obtain ⟨ka, kc, hk⟩ := h.k.form'
  obtain ⟨va, vc, hv⟩ := h.v.form'
  exact ⟨ka, kc, va, vc, hn.1 ▸ hk, hn.2 ▸ hv⟩
theorem find_form (o : Option Rw) : ∃ fp fc fe, findV o = .tuple #[.agg #[.int .i64 fp, .int .i64 fc], .int .i64 fe] := by
  cases o with
  | none => exact ⟨_, _, _, rfl⟩
  | some r => exact ⟨_, _, _, rfl⟩

set_option maxHeartbeats 4000000 in
set_option maxRecDepth 100000 in
theorem all_walk (a0 : Option Addr) (m cap : Nat) (sec key : Key) (W : World) (hmm : HasM W) (hd : Deeds W a0 m) (hm : m ≤ 60) (hs : sec.size ≤ 10) (hk : key.size ≤ 10) :
    Calls Tryz.prog 3 #[.slice a0 m cap, .string sec, .string key] W (BTrue W) := by
  have HD := Lib.hid hd
  have HM := Lib.hid hm
  have HSZ := Lib.hid (And.intro hs hk)
  have HBG := Lib.hid (begun_any W hmm)
  have HMM := Lib.hid hmm
  have a0m : decide ((60 : Int) < (m : Int)) = false := by simp; omega
  have a0m' : decide (60 < m) = false := by simp; omega
  have a1s : decide ((10 : Int) < (sec.size : Int)) = false := by simp; omega
  have a1s' : decide (10 < sec.size) = false := by simp; omega
  have a2k : decide ((10 : Int) < (key.size : Int)) = false := by simp; omega
  have a2k' : decide (10 < key.size) = false := by simp; omega
  clear hd hm hs hk hmm
  go_enter Tryz.func3, Tryz.ntmps3
  go_wp2_with fail
  refine HBG.out.mono ?_
  rintro e w1 ⟨rfl, hs1⟩
  have HN := Lib.hid (ox_new (w0 := W) (A := fun _ => False) hs1 (HasM.only HMM.out hs1 fun e => e) (fun _ e => e.elim))
  have HS1 := Lib.hid hs1
  clear hs1 HBG
  go_wp2_with fail
  refine HN.out.mono ?_
  rintro e w2 ⟨x, rfl, ho2, hs2⟩
  have HO2 := Lib.hid (fun tt => show ∃ A, TwoX W A (w2.alloc (.cells #[.slice none 0 0] tt)) x w2.heap.size [] [] from ⟨_, TwoX.start (HS1.out.trans hs2) ho2 (hasM_pos HMM.out) tt rfl⟩)
  clear ho2 hs2 HN HS1
  unfold ptr
  go_wp2_with fail
  have hO2 := HO2.out 29
  clear HO2
  generalize w2.alloc (.cells #[.slice none 0 0] 29) = w3 at hO2 ⊢
  generalize w2.heap.size = r at hO2 ⊢
  have HO2 := Lib.hid hO2
  clear hO2
  go_loopw [9] (fun s wr => ∃ (i : Nat) (R : List Rw) (A : Nat → Prop), s = .int .i64 i ∧ i ≤ m ∧ TwoX W A wr x r R R ∧ R.length ≤ i) (fun s _ => m - (intOf s).toNat)
  case atStart =>
    obtain ⟨A, hA⟩ := HO2.out
    exact ⟨0, [], A, rfl, Nat.zero_le _, hA, Nat.le_refl _⟩
  case round =>
    clear HO2
    obtain ⟨i, R, A, rfl, hin, ht, hl⟩ := hrel
    have HL := Lib.hid (And.intro ht hl)
    clear ht hl
    by_cases hi : i < m
    · have b1 : decide ((i : Int) < (m : Int)) = true := by simp; omega
      have b2 : decide (i < m) = true := by simp; omega
      have b3 : (0 : Int) ≤ (i : Int) := by omega
      have b4 : (i : Int) < (m : Int) := by omega
      have u9 : IntKind.i64.wrap ((i : Int) + 1) = (i : Int) + 1 := IntWalk.i64_in _ (by have := HM.out; omega)
      obtain ⟨b, off, kd, dk, ds, p, c, hab, c0, c1, c2, c3, c4, kd0, kd1⟩ := HD.out i hi
      subst hab
      have d0 := Still.cell HL.out.1.still c0
      have d1 := Still.cell HL.out.1.still c1
      have d2 := Still.cell HL.out.1.still c2
      have d3 := Still.cell HL.out.1.still c3
      have d4 := Still.cell HL.out.1.still c4
      have F0 := Lib.hid (fun ob => show BTrue W (.returned (.bool true)) (wr.alloc ob) from ⟨rfl, HL.out.1.still.alloc ob⟩)
      clear c0 c1 c2 c3 c4
      by_cases hk12 : dk.size ≤ 12
      rotate_left
      · have e1 : decide ((12 : Int) < (dk.size : Int)) = true := decide_eq_true (by omega)
        have e1' : decide (12 < dk.size) = true := decide_eq_true (by omega)
        go_wp2_with fail
        go_ret
        exact F0.out _
      have e1 : decide ((12 : Int) < (dk.size : Int)) = false := decide_eq_false (by omega)
      have e1' : decide (12 < dk.size) = false := decide_eq_false (by omega)
      by_cases hs12 : ds.size ≤ 12
      rotate_left
      · have e2 : decide ((12 : Int) < (ds.size : Int)) = true := decide_eq_true (by omega)
        have e2' : decide (12 < ds.size) = true := decide_eq_true (by omega)
        go_wp2_with fail
        go_ret
        exact F0.out _
      have e2 : decide ((12 : Int) < (ds.size : Int)) = false := decide_eq_false (by omega)
      have e2' : decide (12 < ds.size) = false := decide_eq_false (by omega)
      have HSD := Lib.hid (And.intro hk12 hs12)
      clear hk12 hs12 F0
      obtain ⟨a, ha⟩ : ∃ a, kd.tmod 8 = a := ⟨_, rfl⟩
      have ha1 : -8 < a ∧ a < 8 := by rw [← ha]; exact ⟨Int.lt_tmod_of_pos _ (by decide), Int.tmod_lt_of_pos _ (by decide)⟩
      have ha2 : IntKind.i64.wrap a = a := IntWalk.i64_in _ (by omega)
      have ha3 : IntKind.i64.wrap (a + 8) = a + 8 := IntWalk.i64_in _ (by omega)
      obtain ⟨g, hg⟩ : ∃ g, (a + 8).tmod 8 = g := ⟨_, rfl⟩
      have hg1 : 0 ≤ g ∧ g < 8 := by rw [← hg]; exact ⟨Int.tmod_nonneg _ (by omega), Int.tmod_lt_of_pos _ (by decide)⟩
      have hg2 : IntKind.i64.wrap g = g := IntWalk.i64_in _ (by omega)
      obtain ⟨q5, hq5⟩ : ∃ q, (g == 5) = q := ⟨_, rfl⟩
      obtain ⟨q6, hq6⟩ : ∃ q, (g == 6) = q := ⟨_, rfl⟩
      obtain ⟨q7, hq7⟩ : ∃ q, (g == 7) = q := ⟨_, rfl⟩
      have HT4 := Lib.hid (fun tt => show TwoX W (fun b => A b ∨ b = wr.heap.size) (wr.alloc (.cells #[.int .i64 kd, .string dk, .string ds, .int .i64 p, .int .i64 c] tt)) x r R R ∧ BoxC wr.heap.size dk ds p c (wr.alloc (.cells #[.int .i64 kd, .string dk, .string ds, .int .i64 p, .int .i64 c] tt)) ∧ wr.heap.size ≠ r from by
        have hc := cellsAt_new wr [.int .i64 kd, .string dk, .string ds, .int .i64 p, .int .i64 c] tt
        obtain ⟨lv, hr, -⟩ := HL.out.1.ref
        have := hr.cells.lt
        exact ⟨HL.out.1.avoid (B := fun b => b = wr.heap.size) ((Still.refl wr).alloc _) (fun b e => by subst e; simp), ⟨hc.cell 1, hc.cell 2, hc.cell 3, hc.cell 4⟩, by omega⟩)
      have HRI := Lib.hid HL.out.2
      have HRL := Lib.hid (show R.length ≤ 1000 from by have := HL.out.2; have := HM.out; omega)
      clear HL
      go_upto_block 2 with fail
      clear ha ha1 hg hg1 d0 d1 d2 d3 d4
      have hT4 := HT4.out 33
      clear HT4
      generalize wr.alloc (.cells #[.int .i64 kd, .string dk, .string ds, .int .i64 p, .int .i64 c] 33) = w4 at hT4 ⊢
      generalize wr.heap.size = bx at hT4 ⊢
      have HT4 := Lib.hid (And.intro hT4.1 hT4.2.1)
      have HBR := Lib.hid hT4.2.2
      clear hT4
      go_cut [] (fun wc => AllX W x r i bx dk ds wc)
      case first =>
        cases q5 with
        | true =>
          obtain ⟨er, her⟩ : ∃ er : Int, (if (getR R dk).isSome then (0 : Int) else 9) = er := ⟨_, rfl⟩
          have herr : errOf (getR R dk) = .int .i64 er := by rw [errOf_int, her]
          have HA := Lib.hid (fun w' (h : TwoX W (fun b => A b ∨ b = bx) w' x r R R) (k : BoxC bx dk ds p c w') => (h.cutA HRL.out dk rfl herr).mono (fun e w'' (h' : PxA W (fun b => A b ∨ b = bx) w' x r (delR R dk) R (.int .i64 er) e w'') => show e = .returned (.int .i64 er) ∧ TwoX W (fun b => A b ∨ b = bx) w'' x r (delR R dk) R ∧ BoxC bx dk ds p c w'' from ⟨h'.1, h'.2.1, h'.2.2.box k (.inr rfl) HBR.out⟩))
          have HB := Lib.hid (fun w' (h : TwoX W (fun b => A b ∨ b = bx) w' x r (delR R dk) R) (k : BoxC bx dk ds p c w') => (h.cutB HRL.out dk rfl herr).mono (fun e w'' (h' : PxB W (fun b => A b ∨ b = bx) w' x r (delR R dk) (delR R dk) (.int .i64 er) e w'') => show e = .returned (.int .i64 er) ∧ Hid (AllX W x r i bx dk ds w'') ∧ BoxC bx dk ds p c w'' from by
            obtain ⟨h1, A', h2, h3, -⟩ := h'
            have hk := h3.box k (.inr rfl) HBR.out
            exact ⟨h1, Lib.hid ⟨_, A', h2, Nat.le_trans (del_len R dk) (by have := HRI.out; omega), hk.1, hk.2.1⟩, hk⟩))
          have HG := Lib.hid (HA.out w4.drew (HT4.out.1.later (Still.refl _).drew) HT4.out.2)
          have hk4 := HT4.out.2
          clear HA
          go_wp2_with fail
          go_region_held3 (fun w' => w'.cell? ⟨bx, 1, none⟩ = some (.string dk) ∧ w'.cell? ⟨bx, 2, none⟩ = some (.string ds) ∧ w'.cell? ⟨bx, 3, none⟩ = some (.int .i64 p) ∧ w'.cell? ⟨bx, 4, none⟩ = some (.int .i64 c)) (first | exact hk4 | assumption)
            (first
              | (go_at_call 8; (with_reducible refine HG.out.mono ?_); rintro e w6 ⟨rfl, ht6, hk6⟩)
              | (go_at_call 9; (with_reducible refine (HB.out _ (by assumption) (by assumption)).mono ?_); rintro e w7 ⟨rfl, HF, hk7⟩))
          go_wp2_with fail
          go_meet
          case rel => exact HF
        | false =>
          cases q6 with
          | true =>
            obtain ⟨er, her⟩ : ∃ er : Int, (if (getR R dk).isSome then (0 : Int) else 9) = er := ⟨_, rfl⟩
            have herr : errOf (getR R dk) = .int .i64 er := by rw [errOf_int, her]
            have HA := Lib.hid (fun w' (h : TwoX W (fun b => A b ∨ b = bx) w' x r R R) (k : BoxC bx dk ds p c w') => (h.moveA HRL.out dk p c rfl herr).mono (fun e w'' (h' : PxA W (fun b => A b ∨ b = bx) w' x r (moveR R dk (p, c)) R (.int .i64 er) e w'') => show e = .returned (.int .i64 er) ∧ TwoX W (fun b => A b ∨ b = bx) w'' x r (moveR R dk (p, c)) R ∧ BoxC bx dk ds p c w'' from ⟨h'.1, h'.2.1, h'.2.2.box k (.inr rfl) HBR.out⟩))
            have HB := Lib.hid (fun w' (h : TwoX W (fun b => A b ∨ b = bx) w' x r (moveR R dk (p, c)) R) (k : BoxC bx dk ds p c w') => (h.moveB HRL.out dk p c rfl herr).mono (fun e w'' (h' : PxB W (fun b => A b ∨ b = bx) w' x r (moveR R dk (p, c)) (moveR R dk (p, c)) (.int .i64 er) e w'') => show e = .returned (.int .i64 er) ∧ Hid (AllX W x r i bx dk ds w'') ∧ BoxC bx dk ds p c w'' from by
              obtain ⟨h1, A', h2, h3, -⟩ := h'
              have hk := h3.box k (.inr rfl) HBR.out
              exact ⟨h1, Lib.hid ⟨_, A', h2, Nat.le_trans (move_len R dk (p, c)) (by have := HRI.out; omega), hk.1, hk.2.1⟩, hk⟩))
            have HG := Lib.hid (HA.out w4.drew (HT4.out.1.later (Still.refl _).drew) HT4.out.2)
            have hk4 := HT4.out.2
            clear HA
            go_wp2_with fail
            go_region_held3 (fun w' => w'.cell? ⟨bx, 1, none⟩ = some (.string dk) ∧ w'.cell? ⟨bx, 2, none⟩ = some (.string ds) ∧ w'.cell? ⟨bx, 3, none⟩ = some (.int .i64 p) ∧ w'.cell? ⟨bx, 4, none⟩ = some (.int .i64 c)) (first | exact hk4 | assumption)
              (first
                | (go_at_call 10; (with_reducible refine HG.out.mono ?_); rintro e w6 ⟨rfl, ht6, hk6⟩)
                | (go_at_call 11; (with_reducible refine (HB.out _ (by assumption) (by assumption)).mono ?_); rintro e w7 ⟨rfl, HF, hk7⟩))
            go_wp2_with fail
            go_meet
            case rel => exact HF
          | false =>
            cases q7 with
            | true =>
              obtain ⟨er, her⟩ : ∃ er : Int, (if (getR R dk).isSome then (0 : Int) else 9) = er := ⟨_, rfl⟩
              have herr : errOf (getR R dk) = .int .i64 er := by rw [errOf_int, her]
              have HA := Lib.hid (fun w' (h : TwoX W (fun b => A b ∨ b = bx) w' x r R R) (k : BoxC bx dk ds p c w') => (h.mendA HRL.out dk rfl herr).mono (fun e w'' (h' : PxA W (fun b => A b ∨ b = bx) w' x r (mendR R dk) R (.int .i64 er) e w'') => show e = .returned (.int .i64 er) ∧ TwoX W (fun b => A b ∨ b = bx) w'' x r (mendR R dk) R ∧ BoxC bx dk ds p c w'' from ⟨h'.1, h'.2.1, h'.2.2.box k (.inr rfl) HBR.out⟩))
              have HB := Lib.hid (fun w' (h : TwoX W (fun b => A b ∨ b = bx) w' x r (mendR R dk) R) (k : BoxC bx dk ds p c w') => (h.mendB HRL.out dk rfl herr).mono (fun e w'' (h' : PxB W (fun b => A b ∨ b = bx) w' x r (mendR R dk) (mendR R dk) (.int .i64 er) e w'') => show e = .returned (.int .i64 er) ∧ Hid (AllX W x r i bx dk ds w'') ∧ BoxC bx dk ds p c w'' from by
                obtain ⟨h1, A', h2, h3, -⟩ := h'
                have hk := h3.box k (.inr rfl) HBR.out
                exact ⟨h1, Lib.hid ⟨_, A', h2, Nat.le_trans (mend_len R dk) (by have := HRI.out; omega), hk.1, hk.2.1⟩, hk⟩))
              have HG := Lib.hid (HA.out w4.drew (HT4.out.1.later (Still.refl _).drew) HT4.out.2)
              have hk4 := HT4.out.2
              clear HA
              go_wp2_with fail
              go_region_held3 (fun w' => w'.cell? ⟨bx, 1, none⟩ = some (.string dk) ∧ w'.cell? ⟨bx, 2, none⟩ = some (.string ds) ∧ w'.cell? ⟨bx, 3, none⟩ = some (.int .i64 p) ∧ w'.cell? ⟨bx, 4, none⟩ = some (.int .i64 c)) (first | exact hk4 | assumption)
                (first
                  | (go_at_call 12; (with_reducible refine HG.out.mono ?_); rintro e w6 ⟨rfl, ht6, hk6⟩)
                  | (go_at_call 13; (with_reducible refine (HB.out _ (by assumption) (by assumption)).mono ?_); rintro e w7 ⟨rfl, HF, hk7⟩))
              go_wp2_with fail
              go_meet
              case rel => exact HF
            | false =>
              obtain ⟨er, her⟩ : ∃ er : Int, putE R dk ds ⟨#[]⟩ = er := ⟨_, rfl⟩
              have HA := Lib.hid (fun w' (h : TwoX W (fun b => A b ∨ b = bx) w' x r R R) (k : BoxC bx dk ds p c w') => (h.putA HRL.out dk ds ⟨#[]⟩ p c (by have := HSD.out; omega) (by have := HSD.out; omega) (by decide) rfl her).mono (fun e w'' (h' : PxA W (fun b => A b ∨ b = bx) w' x r (putR R dk ds ⟨#[]⟩ (p, c)) R (.int .i64 er) e w'') => show e = .returned (.int .i64 er) ∧ TwoX W (fun b => A b ∨ b = bx) w'' x r (putR R dk ds ⟨#[]⟩ (p, c)) R ∧ BoxC bx dk ds p c w'' from ⟨h'.1, h'.2.1, h'.2.2.box k (.inr rfl) HBR.out⟩))
              have HB := Lib.hid (fun w' (h : TwoX W (fun b => A b ∨ b = bx) w' x r (putR R dk ds ⟨#[]⟩ (p, c)) R) (k : BoxC bx dk ds p c w') => (h.putB HRL.out dk ds ⟨#[]⟩ p c (by have := HSD.out; omega) (by have := HSD.out; omega) (by decide) rfl her).mono (fun e w'' (h' : PxB W (fun b => A b ∨ b = bx) w' x r (putR R dk ds ⟨#[]⟩ (p, c)) (putR R dk ds ⟨#[]⟩ (p, c)) (.int .i64 er) e w'') => show e = .returned (.int .i64 er) ∧ Hid (AllX W x r i bx dk ds w'') ∧ BoxC bx dk ds p c w'' from by
                obtain ⟨h1, A', h2, h3, -⟩ := h'
                have hk := h3.box k (.inr rfl) HBR.out
                exact ⟨h1, Lib.hid ⟨_, A', h2, Nat.le_trans (put_len R dk ds ⟨#[]⟩ (p, c)) (by have := HRI.out; omega), hk.1, hk.2.1⟩, hk⟩))
              have HG := Lib.hid (HA.out w4.drew (HT4.out.1.later (Still.refl _).drew) HT4.out.2)
              have hk4 := HT4.out.2
              clear HA
              go_wp2_with fail
              go_region_held3 (fun w' => w'.cell? ⟨bx, 1, none⟩ = some (.string dk) ∧ w'.cell? ⟨bx, 2, none⟩ = some (.string ds) ∧ w'.cell? ⟨bx, 3, none⟩ = some (.int .i64 p) ∧ w'.cell? ⟨bx, 4, none⟩ = some (.int .i64 c)) (first | exact hk4 | assumption)
                (first
                  | (go_at_call 14; (with_reducible refine HG.out.mono ?_); rintro e w6 ⟨rfl, ht6, hk6⟩)
                  | (go_at_call 15; (with_reducible refine (HB.out _ (by assumption) (by assumption)).mono ?_); rintro e w7 ⟨rfl, HF, hk7⟩))
              go_wp2_with fail
              go_meet
              case rel => exact HF
      case rest =>
        clear HT4 HRI HRL
        obtain ⟨R, A, hA, hl, k1, k2⟩ := hcut
        have hl1 : R.length ≤ 1000 := by have := HM.out; omega
        have HA := Lib.hid hA
        have HLL := Lib.hid hl
        obtain ⟨fp, fc, fe, hfv⟩ := find_form (getR R dk)
        have HFA := Lib.hid ((hA.findA dk rfl).mono (fun e w' (h : FindPost wc (getR R dk) e w') => show e = .returned (.tuple #[.agg #[.int .i64 fp, .int .i64 fc], .int .i64 fe]) ∧ Still wc w' from ⟨hfv ▸ h.1, h.2⟩))
        have HFB := Lib.hid (fun w' (hs : Still wc w') => ((hA.later hs).findB hl1 dk rfl).mono (fun e w'' (h : FindPost w' (getR R dk) e w'') => show e = .returned (.tuple #[.agg #[.int .i64 fp, .int .i64 fc], .int .i64 fe]) ∧ Still w' w'' from ⟨hfv ▸ h.1, h.2⟩))
        have HSA := Lib.hid (fun w' (hs : Still wc w') => (hA.later hs).seekA hl1 ds (by have := HSD.out; omega))
        have HSB := Lib.hid (fun w' (hs : Still wc w') => (hA.later hs).seekB hl1 ds)
        obtain ⟨ns, hns⟩ : ∃ ns, (seekR R ds).length = ns := ⟨_, rfl⟩
        have HNS := Lib.hid (show (rkeys (seekR R ds)).length = ns ∧ ((seekR R ds).map Rw.n).length = ns from ⟨(rkeys_length _).trans hns, (List.length_map _).trans hns⟩)
        clear hns
        have HK := Lib.hid (fun w' (hs : Still wc w') => show w'.cell? ⟨bx, 1, none⟩ = some (.string dk) ∧ w'.cell? ⟨bx, 2, none⟩ = some (.string ds) from ⟨Still.cell hs k1, Still.cell hs k2⟩)
        clear hA hl hfv k2
        go_wp2_with fail
        refine HFA.out.mono ?_
        rintro e w5 ⟨rfl, hs5⟩
        have HG5 := Lib.hid (fun tt => And.intro (hs5.alloc (.cells #[.int .i64 fp, .int .i64 fc] tt)) (cellsAt_new w5 [.int .i64 fp, .int .i64 fc] tt))
        clear hs5 HFA k1
        go_upto_region 25 with fail
        have hg5 := HG5.out 31
        clear HG5
        generalize (w5.alloc (.cells #[.int .i64 fp, .int .i64 fc] 31)) = w6 at hg5 ⊢
        generalize w5.heap.size = bb1 at hg5 ⊢
        have HG6 := Lib.hid hg5
        obtain ⟨k1, k2⟩ := HK.out _ hg5.1
        clear hg5
        go_wp2_with fail
        refine (HFB.out _ HG6.out.1).mono ?_
        rintro e w7 ⟨rfl, hs7⟩
        have HG7 := Lib.hid (fun tt => And.intro (HG6.out.1.trans (hs7.alloc (.cells #[.int .i64 fp, .int .i64 fc] tt))) (And.intro (HG6.out.2.only (hs7.alloc (.cells #[.int .i64 fp, .int .i64 fc] tt)) fun e => e) (cellsAt_new w7 [.int .i64 fp, .int .i64 fc] tt)))
        clear hs7 HFB k1 k2
        go_upto_region 26 with fail
        have hg7 := HG7.out 31
        clear HG7
        generalize (w7.alloc (.cells #[.int .i64 fp, .int .i64 fc] 31)) = w8 at hg7 ⊢
        generalize w7.heap.size = bb2 at hg7 ⊢
        have HG8 := Lib.hid hg7
        obtain ⟨-, k2⟩ := HK.out _ hg7.1
        clear hg7 HG6
        go_wp2_with fail
        refine (HSA.out _ HG8.out.1).mono ?_
        rintro e w9 ⟨kv, vv, rfl, hl9, hs9⟩
        have HS9 := Lib.hid (HG8.out.1.trans hs9)
        have HL9 := Lib.hid (And.intro hl9 hs9)
        obtain ⟨ka, kc, va, vc, rfl, rfl⟩ := hl9.form HNS.out
        obtain ⟨-, k2⟩ := HK.out _ HS9.out
        clear hl9 hs9 HSA
        go_wp2_with fail
        refine (HSB.out _ HS9.out).mono ?_
        rintro e w10 ⟨kv2, vv2, rfl, hl10, hs10⟩
        obtain ⟨ka2, kc2, va2, vc2, rfl, rfl⟩ := hl10.form HNS.out
        have hs8 := HL9.out.2.trans hs10
        have hc1 := HG8.out.2.1.only hs8 fun e => e
        have hc2 := HG8.out.2.2.only hs8 fun e => e
        have hA10 := HA.out.later (HS9.out.trans hs10)
        obtain ⟨ra, rc, hrl⟩ := hA10.rlen
        obtain ⟨n, hn⟩ : ∃ n, R.length = n := ⟨_, rfl⟩
        rw [hn] at hrl
        have HSS := Lib.hid (fun w' (hs : Still w10 w') => show Still w10 w' ∧ w'.cell? ⟨bb1, 0, none⟩ = some (.int .i64 fp) ∧ w'.cell? ⟨bb1, 1, none⟩ = some (.int .i64 fc) ∧ w'.cell? ⟨bb2, 0, none⟩ = some (.int .i64 fp) ∧ w'.cell? ⟨bb2, 1, none⟩ = some (.int .i64 fc) ∧ w'.cell? ⟨r, 0, none⟩ = some (.slice ra n rc) from
          ⟨hs, Still.cell hs (hc1.cell 0), Still.cell hs (hc1.cell 1), Still.cell hs (hc2.cell 0), Still.cell hs (hc2.cell 1), Still.cell hs hrl⟩)
        have HSM := Lib.hid (fun w' (hs : Still w10 w') => (same_told HL9.out.1 (hs10.trans hs) hl10 hs (by rw [List.length_map, rkeys_length]) (Nat.le_trans (by rw [rkeys_length]; exact List.length_filter_le _ _) (Nat.le_trans hl1 (by omega)))).mono (fun e w'' (h : SamePost w' e w'') => show e = .returned (.bool true) ∧ Still w10 w'' from ⟨h.1, hs.trans h.2⟩))
        have HLN := Lib.hid (fun w' (hs : Still w10 w') => (ox_len (hA10.later hs).own hn).mono (fun e w'' (h : e = .returned (.int .i64 n) ∧ w'' = w') => show e = .returned (.int .i64 n) ∧ Still w10 w'' from ⟨h.1, by rw [h.2]; exact hs⟩))
        have HA10 := Lib.hid hA10
        have HS8 := Lib.hid (show Still w10 w10.drew from (Still.refl _).drew)
        clear hl10 hs10 hs8 hc1 hc2 hA10 hrl hn hl1 HSB k2
        go_wp2_with fail
        have hs8 := HS8.out
        go_region_held3 (fun w' => Still w10 w' ∧ w'.cell? ⟨bb1, 0, none⟩ = some (.int .i64 fp) ∧ w'.cell? ⟨bb1, 1, none⟩ = some (.int .i64 fc) ∧ w'.cell? ⟨bb2, 0, none⟩ = some (.int .i64 fp) ∧ w'.cell? ⟨bb2, 1, none⟩ = some (.int .i64 fc) ∧ w'.cell? ⟨r, 0, none⟩ = some (.slice ra n rc)) (first | assumption | exact HSS.out _ (by assumption))
          (first
            | (go_at_call 20; (with_reducible refine (HSM.out _ (by assumption)).mono ?_); rintro e w11 ⟨rfl, hs11⟩)
            | (go_at_call 21; (with_reducible refine (HLN.out _ (by assumption)).mono ?_); rintro e w12 ⟨rfl, hs12⟩))
        have HF := Lib.hid (HA10.out.later hs12)
        clear hs8 hs11 hs12 HSM HLN HSS
        go_wp2_with fail
        go_roundw
        case rel => exact ⟨i + 1, R, A, by go_num, by omega, HF.out, HLL.out⟩
        case measure => simp [intOf]; omega
    · have hge : i = m := by omega
      subst hge
      have b1 : decide ((i : Int) < (i : Int)) = false := by simp
      have hl1 : R.length ≤ 1000 := by have := HL.out.2; have := HM.out; omega
      have HFA := Lib.hid (HL.out.1.fromA hl1 key)
      have HFB := Lib.hid (fun w' (hs : Still wr w') => (HL.out.1.later hs).fromB hl1 key)
      have HSA := Lib.hid (fun w' (hs : Still wr w') => (HL.out.1.later hs).seekA hl1 sec (by have := HSZ.out; omega))
      have HSB := Lib.hid (fun w' (hs : Still wr w') => (HL.out.1.later hs).seekB hl1 sec)
      have HS0 := Lib.hid HL.out.1.still
      obtain ⟨nf, hnf⟩ : ∃ nf, (fromR R key).length = nf := ⟨_, rfl⟩
      have HNF := Lib.hid (show (rkeys (fromR R key)).length = nf ∧ ((fromR R key).map Rw.f).length = nf from ⟨(rkeys_length _).trans hnf, (List.length_map _).trans hnf⟩)
      obtain ⟨nt, hnt⟩ : ∃ nt, (seekR R sec).length = nt := ⟨_, rfl⟩
      have HNT := Lib.hid (show (rkeys (seekR R sec)).length = nt ∧ ((seekR R sec).map Rw.n).length = nt from ⟨(rkeys_length _).trans hnt, (List.length_map _).trans hnt⟩)
      clear hnf hnt
      have HR1 := Lib.hid hl1
      clear hl1 HL
      go_wp2_with fail
      refine HFA.out.mono ?_
      rintro e w4 ⟨kv, vv, rfl, hl4, hs4⟩
      obtain ⟨ka, kc, va, vc, rfl, rfl⟩ := hl4.form HNF.out
      have HL4 := Lib.hid (And.intro hl4 hs4)
      clear hl4 hs4 HFA
      go_wp2_with fail
      refine (HFB.out _ HL4.out.2).mono ?_
      rintro e w5 ⟨kv2, vv2, rfl, hl5, hs5⟩
      obtain ⟨ka2, kc2, va2, vc2, rfl, rfl⟩ := hl5.form HNF.out
      have HL5 := Lib.hid (And.intro hl5 (And.intro hs5 (HL4.out.2.trans hs5)))
      clear hl5 hs5 HFB
      go_wp2_with fail
      refine (HSA.out _ HL5.out.2.2).mono ?_
      rintro e w6 ⟨kv3, vv3, rfl, hl6, hs6⟩
      obtain ⟨ka3, kc3, va3, vc3, rfl, rfl⟩ := hl6.form HNT.out
      have HL6 := Lib.hid (And.intro hl6 (And.intro hs6 (HL5.out.2.2.trans hs6)))
      clear hl6 hs6 HSA
      go_wp2_with fail
      refine (HSB.out _ HL6.out.2.2).mono ?_
      rintro e w7 ⟨kv4, vv4, rfl, hl7, hs7⟩
      obtain ⟨ka4, kc4, va4, vc4, rfl, rfl⟩ := hl7.form HNT.out
      have HL7 := Lib.hid (And.intro hl7 (And.intro hs7 (HL6.out.2.2.trans hs7)))
      clear hl7 hs7 HSB
      have HN1 := Lib.hid (fun w' => find_nil w' ⟨#[97]⟩)
      have HN2 := Lib.hid (fun w' => seek_nil w' ⟨#[]⟩)
      go_wp2_with fail
      refine (HN1.out _).mono ?_
      rintro e w8 ⟨rfl, hs8⟩
      have HS8 := Lib.hid (fun tt => hs8.alloc (.cells #[.int .i64 0, .int .i64 0] tt))
      clear hs8 HN1
      go_upto_region 36 with fail
      have hs9 := HS8.out 31
      clear HS8
      generalize (w8.alloc (.cells #[.int .i64 0, .int .i64 0] 31)) = w9 at hs9 ⊢
      generalize w8.heap.size = bn at *
      have HS9 := Lib.hid hs9
      clear hs9
      go_wp2_with fail
      refine (HN2.out _).mono ?_
      rintro e w10 ⟨rfl, hs10⟩
      have HS10 := Lib.hid (HS9.out.trans hs10)
      clear hs10 HN2 HS9
      have hlf : (rkeys (fromR R key)).length ≤ 90000 := by
        rw [rkeys_length]
        unfold fromR
        rw [List.length_drop]
        have := HR1.out
        omega
      have hls : (rkeys (seekR R sec)).length ≤ 90000 := by
        rw [rkeys_length]
        exact Nat.le_trans (List.length_filter_le _ _) (Nat.le_trans HR1.out (by omega))
      have HM1 := Lib.hid (fun w' (hs : Still w7 w') => same_told HL4.out.1 ((HL5.out.2.1.trans (HL6.out.2.1.trans HL7.out.2.1)).trans hs) HL5.out.1 ((HL6.out.2.1.trans HL7.out.2.1).trans hs) (by rw [List.length_map, rkeys_length]) hlf)
      have HM2 := Lib.hid (fun w' (hs : Still w7 w') => same_told HL6.out.1 (HL7.out.2.1.trans hs) HL7.out.1 hs (by rw [List.length_map, rkeys_length]) hls)
      have HP := Lib.hid (fun w' => put_nil w' ⟨#[97]⟩ ⟨#[]⟩ ⟨#[]⟩ 0 0)
      have HCn := Lib.hid (fun w' => cut_nil w' ⟨#[97]⟩)
      have HMv := Lib.hid (fun w' => move_nil w' ⟨#[97]⟩ 0 0)
      have HMe := Lib.hid (fun w' => mend_nil w' ⟨#[97]⟩)
      have HLn := Lib.hid (fun w' => len_nil w')
      have HFIN := Lib.hid (show Still W w7 from HS0.out.trans HL7.out.2.2)
      clear hlf hls HL4 HL5 HL6 HL7
      go_wp2_with fail
      (with_reducible refine (HM1.out _ HS10.out).mono ?_)
      rintro e w11 ⟨rfl, hs11⟩
      have HS11 := Lib.hid (HS10.out.trans hs11)
      clear hs11 HM1 HS10
      go_wp2_with fail
      (with_reducible refine (HM2.out _ HS11.out).mono ?_)
      rintro e w12 ⟨rfl, hs12⟩
      have HS12 := Lib.hid (HS11.out.trans hs12)
      clear hs12 HM2 HS11
      go_wp2_with fail
      refine (HP.out _).mono ?_
      rintro e w13 ⟨rfl, hs13⟩
      have HS13 := Lib.hid (HS12.out.trans hs13)
      clear hs13 HP HS12
      go_wp2_with fail
      refine (HCn.out _).mono ?_
      rintro e w14 ⟨rfl, hs14⟩
      have HS14 := Lib.hid (HS13.out.trans hs14)
      clear hs14 HCn HS13
      go_wp2_with fail
      refine (HMv.out _).mono ?_
      rintro e w15 ⟨rfl, hs15⟩
      have HS15 := Lib.hid (HS14.out.trans hs15)
      clear hs15 HMv HS14
      go_wp2_with fail
      refine (HMe.out _).mono ?_
      rintro e w16 ⟨rfl, hs16⟩
      have HS16 := Lib.hid (HS15.out.trans hs16)
      clear hs16 HMe HS15
      go_wp2_with fail
      refine (HLn.out _).mono ?_
      rintro e w17 ⟨rfl, hs17⟩
      have F := Lib.hid (show BTrue W (.returned (.bool true)) w17 from ⟨rfl, HFIN.out.trans (HS16.out.trans hs17)⟩)
      clear hs17 HLn HS16
      go_wp2_with fail
      go_ret
      exact F.out

set_option maxRecDepth 100000 in
set_option maxHeartbeats 1000000 in
theorem all_long (a0 : Option Addr) (m cap : Nat) (sec key : Key) (W : World) (hm : HasM W) (h : ¬ (m ≤ 60 ∧ sec.size ≤ 10 ∧ key.size ≤ 10)) :
    Calls Tryz.prog 3 #[.slice a0 m cap, .string sec, .string key] W (BTrue W) := by
  have HBG := Lib.hid (begun_any W hm)
  clear hm
  have h' : 60 < m ∨ (¬ 60 < m ∧ 10 < sec.size) ∨ (¬ 60 < m ∧ ¬ 10 < sec.size ∧ 10 < key.size) := by omega
  clear h
  rcases h' with h | ⟨h1, h2⟩ | ⟨h1, h2, h3⟩
  all_goals
    go_enter Tryz.func3, Tryz.ntmps3
    go_wp2_with fail
    refine HBG.out.mono ?_
    rintro e w1 ⟨rfl, hb1⟩
    have F := Lib.hid (show BTrue W (.returned (.bool true)) w1 from ⟨rfl, hb1⟩)
    clear HBG hb1
    go_wp2_with fail
    go_ret
    exact F.out
end Go.Proofs.YtedfijmaeoednaaGreatDoor

namespace Go.Proofs.YtedfijmaeoednaaGreatDoor
open Go.RowKit Go.Wh Go.Proofs.YtedfijmaeoednaaGreatDoor.Tw Go.ChangeShapes Go.WideShapes Go.Deep

theorem i64_wf {z : Int} (h : (Lit.int .i64 z).wf = true) : -9223372036854775808 ≤ z ∧ z ≤ 9223372036854775807 := by
  have e1 : IntKind.i64.min = -9223372036854775808 := by decide
  have e2 : IntKind.i64.max = 9223372036854775807 := by decide
  simp only [Lit.wf, e1, e2, Bool.and_eq_true, decide_eq_true_eq] at h
  omega

section
variable {H : Type} {enc : TypeId × Value → H}
set_option maxRecDepth 100000 in
theorem open_deeds {W : World} {base : Nat} {v : Value} {d : DataW H} {p : List MemPlace}
    (hval : Value.okWide Tryz.prog W .any base 22 v) (h : DataW.Trod enc Tryz.prog W 0 (fun _ => true) true 22 v d p) : ∃ a n c, v = .slice a n c ∧ Deeds W a n := by
  obtain ⟨a0, len0, cap0, rfl⟩ := okWide_slice Tryz.underlying22 hval
  refine ⟨a0, len0, cap0, rfl, ?_⟩
  obtain ⟨fuel, hf⟩ := h
  have k5 : Tryz.prog.cellsOf 33 = 5 := by kernel_rfl
  have k1 : Tryz.prog.cellsOf 3 = 1 := by kernel_rfl
  have ks : Tryz.prog.cellsOf 9 = 1 := by kernel_rfl
  have k2 : Tryz.prog.cellsOf 31 = 2 := by kernel_rfl
  rcases open_slice Tryz.underlying22 hf with ⟨hcs, _⟩ | ⟨x, l, c, m, n, D, Pl, hcs, _, hl, hmx, hm, _, hcell⟩
  · simp [Value.cells] at hcs
    obtain ⟨rfl, rfl, rfl⟩ := hcs
    exact fun i hi => by omega
  · simp [Value.cells] at hcs
    obtain ⟨rfl, rfl, rfl⟩ := hcs
    simp only [if_true] at hm
    subst hm
    intro i hi
    obtain ⟨cs', hc, ht⟩ := hcell i (by omega)
    rw [k5] at hc
    obtain ⟨_, hlen, hat⟩ := World.cells?_some hc
    obtain ⟨xs, n', _, _, _, hxl, hfld⟩ := DataW.trod_struct Tryz.underlying33 ht
    match cs', hlen with
    | [v0, v1, v2, v3, v4], _ =>
      have hxl' : xs.length = 4 := hxl
      match xs, hxl' with
      | [y0, y1, y2, y3], _ =>
        have g0 := hfld 0 ⟨"Kind", 3, 0, false, "", "", 0⟩ rfl
        have g1 := hfld 1 ⟨"Key", 9, 1, false, "", "", 8⟩ rfl
        have g2 := hfld 2 ⟨"Sec", 9, 2, false, "", "", 24⟩ rfl
        have g3 := hfld 3 ⟨"At", 31, 3, false, "", "", 40⟩ rfl
        simp only [k1, ks, k2, List.drop_zero, List.drop_succ_cons, List.take_succ_cons, List.take_zero, List.getElem?_cons_zero, List.getElem?_cons_succ] at g0 g1 g2 g3
        obtain ⟨kd, e0, _, hw⟩ := DataW.trod_int Tryz.underlying3 g0
        obtain ⟨key, e1, _, _⟩ := DataW.trod_string Tryz.underlying9 g1
        obtain ⟨sec, e2, _, _⟩ := DataW.trod_string Tryz.underlying9 g2
        obtain ⟨zs, n2, _, _, _, hzl, hf2⟩ := DataW.trod_struct Tryz.underlying31 g3
        have hzl' : zs.length = 2 := hzl
        match zs, hzl' with
        | [z0, z1], _ =>
          have j0 := hf2 0 ⟨"Page", 3, 0, false, "", "", 0⟩ rfl
          have j1 := hf2 1 ⟨"Cell", 3, 1, false, "", "", 8⟩ rfl
          simp only [k1, List.drop_zero, List.drop_succ_cons, List.take_succ_cons, List.take_zero, List.getElem?_cons_zero, List.getElem?_cons_succ] at j0 j1
          obtain ⟨pp, e3, _, _⟩ := DataW.trod_int Tryz.underlying3 j0
          obtain ⟨cc, e4, _, _⟩ := DataW.trod_int Tryz.underlying3 j1
          simp only [List.cons.injEq, and_true] at e0 e1 e2 e3 e4
          subst e0 e1 e2 e3 e4
          obtain ⟨b, off, spot⟩ := x
          have h0 := hat 0 (by omega)
          have h1 := hat 1 (by omega)
          have h2 := hat 2 (by omega)
          have h3 := hat 3 (by omega)
          have h4 := hat 4 (by omega)
          rw [Go.Deep.add_add] at h0 h1 h2 h3 h4
          have hspot : spot = none := by
            obtain ⟨cs0, hc0, _⟩ := hcell 0 (by omega)
            rw [k5] at hc0
            obtain ⟨_, hlen0, hat0⟩ := World.cells?_some hc0
            have g := hat0 0 (by omega)
            rw [List.getElem?_eq_getElem (by omega)] at g
            have := World.cell?_spot g
            simpa [Addr.add] using this
          subst hspot
          have hadd : ∀ j, (⟨b, off, none⟩ : Addr).add j = ⟨b, off + j, none⟩ := fun j => by unfold Addr.add; split <;> simp_all
          rw [hadd] at h0 h1 h2 h3 h4
          have hb := i64_wf hw
          refine ⟨b, off, kd, key, sec, pp, cc, rfl, h0, ?_, ?_, ?_, ?_, hb.1, hb.2⟩
          · rw [Nat.add_assoc]; exact h1
          · rw [Nat.add_assoc]; exact h2
          · rw [Nat.add_assoc]; exact h3
          · rw [Nat.add_assoc]; exact h4
end
end Go.Proofs.YtedfijmaeoednaaGreatDoor

namespace Go.Proofs.YtedfijmaeoednaaGreatDoor
open Go.RowKit Go.Wh Go.ChangeShapes Go.WideShapes Go.ChangeAt Go.Proofs.YtedfijmaeoednaaGreatDoor.Tw
open Go.ChangeMaps (open_string)

set_option maxRecDepth 100000 in
theorem indexAll_lifted (os : Os) (started : os.Started) (H : Type) (enc : TypeId × Value → H) :
    ReturnsInHanded {} Tryz.checked os 3 .any (fun w args => (Rows.indexAllSpec.pre enc Tryz.prog Tryz.f3 Rows.indexAllRow.domain false w args ∧ laidMetH Tryz.prog twVars w) ∧ sizedMet enc Tryz.prog Tryz.f3 (OpenSpec.ofChange Rows.indexAllSpec) false w args)
      (Rows.indexAllSpec.post enc Tryz.prog Tryz.f3 false true false false) := by
  refine twin_wrap (C := Tryz.checked) (X := fun w _ => laidMetH Tryz.prog twVars w) twOwn started (by kernel_rfl) Tryz.func3
    (ChangeSpec.witness_shaped (enc := enc) (C := Tryz.checked) (os := os) (X := fun w _ => laidMetH Tryz.prog twVars w) false (World.laidAll Tryz.prog os twVars) #[.slice none 0 0, .string ⟨#[]⟩, .string ⟨#[]⟩] 8 (World.laidAll_os _ _ _)
      (World.shaped_of_ZipB (by kernel_rfl) (by kernel_rfl)) (by kernel_rfl) (by kernel_rfl) (by kernel_rfl)
      (by rw [MakeChecks.laidMetH_plain _ _ _ (by kernel_rfl)]; exact laidMet_laidAll _ (by kernel_rfl) (by kernel_rfl))) ?_
  intro W base args ds gs before hval0 hW hsh
  have hval : ∀ (j : Nat) t v, Tryz.f3.params[j]? = some t → args[j]? = some v → Value.okWide Tryz.prog W .any base t v := hval0
  have hW' := hW
  obtain ⟨p, q, hA0, hV, rfl, _, _⟩ := hW
  have hA : DataW.TrodAll enc Tryz.prog W 0 (fun _ => true) true Tryz.f3.params.toList args.toList ds p := hA0
  rw [Tryz.params3] at hA hval
  obtain ⟨v0, v1, v2, d0, d1, d2, p0, p1, p2, rfl, rfl, rfl, h0, h1, h2⟩ := trodAll_three hA
  obtain ⟨a0, m0, c0, rfl, w0⟩ := open_deeds (hval 0 22 v0 rfl rfl) h0
  obtain ⟨s1, rfl, rfl, rfl, w1⟩ := open_string Tryz.underlying9 (hval 1 9 v1 rfl rfl) h1
  obtain ⟨s2, rfl, rfl, rfl, w2⟩ := open_string Tryz.underlying9 (hval 2 9 v2 rfl rfl) h2
  have walk : Calls Tryz.prog 3 #[.slice a0 m0 c0, .string s1, .string s2] W (BTrue W) := by
    by_cases hl : m0 ≤ 60 ∧ s1.size ≤ 10 ∧ s2.size ≤ 10
    · exact all_walk a0 m0 c0 s1 s2 W (hasM_of_shaped hsh) w0 hl.1 hl.2.1 hl.2.2
    · exact all_long a0 m0 c0 s1 s2 W (hasM_of_shaped hsh) hl
  refine walk.mono fun e W' ⟨he, bel⟩ => ?_
  subst he
  exact ⟨_, rfl, law_post twLaid (t := 4) rfl Tryz.underlying4 rfl (by intro t ht; rw [show Tryz.f3.params.toList = [22, 9, 9] from rfl] at ht; simp at ht; rcases ht with rfl | rfl <;> exact ⟨by kernel_rfl, of_decide_eq_true (by kernel_rfl)⟩) hW' rfl bel.below⟩

theorem indexAll_row : Rows.IndexAllSaid :=
  OpenClaim.holds_of_wide 3 Tryz.f3 rfl rfl rfl rfl rfl rfl rfl ⟨rfl, rfl, rfl, rfl, rfl⟩ rfl rfl rfl rfl rfl (by kernel_rfl) Tryz.func3 (by kernel_rfl)
    (of_decide_eq_true (by kernel_rfl)) (by unfold Func.isWrapper; first | (rw [if_pos (by decide +kernel)]; kernel_rfl) | (rw [if_neg (by decide +kernel)]; exact ⟨rfl, rfl⟩))
    (fun os started H enc _ => indexAll_lifted os started H enc)

theorem indexAll_holds : Rows.IndexAllCardSaid :=
  Claim7.holds_tied_plain_at .later [] [.data, .pinned] true Rows.indexAllCard.stood.harness false indexAll_row (fun _ h => by cases h) (by kernel_rfl) (fun _ h => by cases h) indexAll_row_tie rfl ⟨rfl, rfl⟩ (by kernel_rfl) rfl
    (fun f fn hf hfn => by
      obtain rfl : f = 3 := Option.some.inj ((show Tryz.prog.funcNamed "whim/whimlaw25.IndexAll" = some 3 by kernel_rfl).symm.trans hf) |>.symm
      obtain rfl : fn = Tryz.f3 := (Option.some.inj (Tryz.func3.symm.trans hfn)).symm
      exact ⟨by kernel_rfl, fun j t ht => by
        rw [Tryz.params3] at ht
        have hm : t ∈ [22, 9, 9] := by simpa using Array.mem_of_getElem? ht
        have hall : ([22, 9, 9].all fun u => !Tryz.prog.wantsStandIn u) = true := by kernel_rfl
        exact (show Tryz.prog.wantsStandIn t = false by simpa using List.all_eq_true.1 hall t hm)⟩)
    (by kernel_rfl)
#print axioms indexAll_holds
end Go.Proofs.YtedfijmaeoednaaGreatDoor
