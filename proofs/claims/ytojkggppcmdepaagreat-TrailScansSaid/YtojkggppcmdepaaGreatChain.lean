/- Slices that are made and appended to in one region, in whatever order: each is what it must be, all lie apart. No conditions. -/
import Derived.Test.YtojkggppcmdepaaGreatAnyM
import Derived.Test.YtojkggppcmdepaaGreatVecStep
namespace Go.Wh
open Go.RowKit

/-- What each operation of I leaves (n elements of sz cells: cs), till 'use' takes it. -/
structure ChS where
  I : List Nat
  sz : Nat → Nat
  n : Nat → Nat
  cs : Nat → List Value
  use : Nat → Nat

structure ChJ (W : World) (X : ChS) (L : Nat → Bool) (xs : Nat → Value) (w : World) : Prop where
  still : Only (fun _ => False) W w
  vec : ∀ i ∈ X.I, L i = true → L (X.use i) = false → Vec w (X.sz i) (xs i) (X.n i) (X.cs i) ∧ ∀ g, (xs i).ownBlock = some g → W.heap.size ≤ g ∧ g < w.heap.size
  apart : ∀ i ∈ X.I, ∀ j ∈ X.I, i ≠ j → L i = true → L j = true → L (X.use i) = false → L (X.use j) = false → ∀ g, (xs i).ownBlock = some g → (xs j).ownBlock ≠ some g

section
variable {W w w' : World} {X : ChS} {L : Nat → Bool} {xs : Nat → Value} {i s : Nat} {v : Value}
theorem ChJ.start (hs : Only (fun _ => False) W w) (hl : ∀ j ∈ X.I, L j = false) : ChJ W X L xs w :=
  ⟨hs, (fun j hj h => by rw [hl j hj] at h; cases h), (fun j hj _ _ _ h => by rw [hl j hj] at h; cases h)⟩
theorem upN_at {α : Type} (f : Nat → α) (i : Nat) (v : α) : upN f i v i = v := if_pos rfl
theorem upN_other {α : Type} (f : Nat → α) {i j : Nat} (v : α) (h : j ≠ i) : upN f i v j = f j := if_neg h
theorem upN_false {L : Nat → Bool} {i j : Nat} (h : upN L i true j = false) : j ≠ i ∧ L j = false := by
  by_cases e : j = i
  · subst e
    rw [upN_at] at h
    cases h
  · rw [upN_other _ _ e] at h
    exact ⟨e, h⟩
/-- One more, in a block of its own. -/
theorem ChJ.build (h : ChJ W X L xs w) (ob : Obj) (hv : Vec (w.alloc ob) (X.sz i) v (X.n i) (X.cs i)) (hg : ∀ g, v.ownBlock = some g → g = w.heap.size) : ChJ W X (upN L i true) (upN xs i v) (w.alloc ob) := by
  have hz : (w.alloc ob).heap.size = w.heap.size + 1 := by simp
  have hsz := h.still.size
  refine ⟨h.still.alloc ob, fun j hj h1 h2 => ?_, fun j hj k hk hjk h1 h2 h3 h4 g hgj => ?_⟩
  · by_cases e : j = i
    · subst e
      rw [upN_at]
      exact ⟨hv, fun g e => by rw [hg g e]; omega⟩
    · rw [upN_other _ _ e] at h1 ⊢
      obtain ⟨a, b⟩ := h.vec j hj h1 (upN_false h2).2
      exact ⟨a.alloc ob, fun g hg => by have := b g hg; omega⟩
  · by_cases e : j = i
    · subst e
      rw [upN_at] at hgj
      have e2 : k ≠ j := Ne.symm hjk
      rw [upN_other _ _ e2] at h2 ⊢
      intro hgk
      have := (h.vec k hk h2 (upN_false h4).2).2 g hgk
      have := hg g hgj
      omega
    · rw [upN_other _ _ e] at h1 hgj
      by_cases e2 : k = i
      · subst e2
        rw [upN_at]
        intro hgk
        have := (h.vec j hj h1 (upN_false h3).2).2 g hgj
        have := hg g hgk
        omega
      · rw [upN_other _ _ e2] at h2 ⊢
        exact h.apart j hj k hk hjk h1 h2 (upN_false h3).2 (upN_false h4).2 g hgj
/-- One is appended to. -/
theorem ChJ.app (h : ChJ W X L xs w) (hs' : X.I.contains s = true) (hus : X.use s = i) (hls : L s = true) (hli : L i = false) (hv : Vec w' (X.sz i) v (X.n i) (X.cs i)) (ho : Only (fun k => (xs s).ownBlock = some k) w w')
    (hb : v.ownBlock = (xs s).ownBlock ∨ ∃ g, v.ownBlock = some g ∧ w.heap.size ≤ g ∧ g < w'.heap.size) : ChJ W X (upN L i true) (upN xs i v) w' := by
  have hs : s ∈ X.I := List.contains_iff_mem.1 hs'
  have hsv := h.vec s hs hls (by rw [hus]; exact hli)
  have hsz := h.still.size
  have hoz := ho.size
  have hvb : ∀ g, v.ownBlock = some g → W.heap.size ≤ g ∧ g < w'.heap.size := fun g hg => by
    rcases hb with e | ⟨g', e, h1, h2⟩
    · have := hsv.2 g (e.symm.trans hg)
      omega
    · rw [e] at hg
      injection hg with hg
      omega
  have hne : ∀ j, j ∈ X.I → j ≠ i → L j = true → upN L i true (X.use j) = false → j ≠ s ∧ L (X.use j) = false := fun j _ _ _ h2 => by
    obtain ⟨e1, e2⟩ := upN_false h2
    exact ⟨fun e => e1 (by rw [e]; exact hus), e2⟩
  have hap : ∀ j, j ∈ X.I → j ≠ i → L j = true → upN L i true (X.use j) = false → ∀ g, (xs j).ownBlock = some g → v.ownBlock ≠ some g := fun j hj hji h1 h2 g hg hvg => by
    obtain ⟨e1, e2⟩ := hne j hj hji h1 h2
    rcases hb with e | ⟨g', e, h3, h4⟩
    · exact h.apart j hj s hs e1 h1 hls e2 (by rw [hus]; exact hli) g hg (e.symm.trans hvg)
    · have := (h.vec j hj h1 e2).2 g hg
      rw [e] at hvg
      injection hvg with hvg
      omega
  refine ⟨h.still.andThen ho fun b hb e => by have := hsv.2 b e; omega, fun j hj h1 h2 => ?_, fun j hj k hk hjk h1 h2 h3 h4 g hgj => ?_⟩
  · by_cases e : j = i
    · subst e
      rw [upN_at]
      exact ⟨hv, hvb⟩
    · rw [upN_other _ _ e] at h1 ⊢
      obtain ⟨e1, e2⟩ := hne j hj e h1 h2
      obtain ⟨a, b⟩ := h.vec j hj h1 e2
      exact ⟨a.only ho fun g hg => h.apart s hs j hj (Ne.symm e1) hls h1 (by rw [hus]; exact hli) e2 |> fun q e3 => q g e3 hg, fun g hg => by have := b g hg; omega⟩
  · by_cases e : j = i
    · subst e
      rw [upN_at] at hgj
      have e2 : k ≠ j := Ne.symm hjk
      rw [upN_other _ _ e2] at h2 ⊢
      exact fun hgk => hap k hk e2 h2 h4 g hgk hgj
    · rw [upN_other _ _ e] at h1 hgj
      by_cases e2 : k = i
      · subst e2
        rw [upN_at]
        exact hap j hj e h1 h3 g hgj
      · rw [upN_other _ _ e2] at h2 ⊢
        exact h.apart j hj k hk hjk h1 h2 (hne j hj e h1 h3).2 (hne k hk e2 h2 h4).2 g hgj
end

section
variable {P : Program}
/-- A part of a slice, as the program cuts it. -/
theorem Vec.part {size n : Nat} {v : Value} {xs : List Value} (t : TypeId) (ht : P.underlying t = some (.slice (P.elem t))) (hz : ∀ w, (sizeOf (P.elem t)).run P w = .ok size w) {w0 : World} (h0 : Vec w0 size v n xs) {lo hi : Nat} (h1 : lo ≤ hi) (h2 : hi ≤ n) :
    ∃ v', (∀ w, (Instr.slice t v (some (.int .i64 (lo : Int))) (some (.int .i64 (hi : Int))) none).run P w = .ok v' w) ∧ (lo = 0 → ∀ w, (Instr.slice t v none (some (.int .i64 (hi : Int))) none).run P w = .ok v' w) ∧ (hi = n → ∀ w, (Instr.slice t v (some (.int .i64 (lo : Int))) none none).run P w = .ok v' w) ∧
      ∀ w, Vec w size v n xs → Vec w size v' (hi - lo) ((xs.drop (lo * size)).take ((hi - lo) * size)) := by
  rcases h0 with ⟨rfl, rfl, rfl⟩ | ⟨g, o, cap, rfl, hv⟩
  · have e1 : hi = 0 := by omega
    have e2 : lo = 0 := by omega
    subst e1 e2
    refine ⟨.slice none 0 0, fun w => ?_, fun _ w => ?_, fun _ w => ?_, fun w _ => by simpa using Vec.nil w size⟩
    · rw [run_slice_lh w t none 0 0 ht .i64 .i64 _ _ (by omega) (by omega) (by omega), hz]
      simp [Result.andThen, sliced]
    · rw [run_slice_h w t none 0 0 ht .i64 _ (by omega) (by omega), hz]
      simp [Result.andThen, sliced]
    · rw [run_slice_l w t none 0 0 ht .i64 _ (by omega) (by omega), hz]
      simp [Result.andThen, sliced]
  · have hle := hv.le
    refine ⟨sliced (some ⟨g, o, none⟩) lo hi cap size, fun w => ?_, fun e w => ?_, fun e w => ?_, fun w hw => ?_⟩
    · rw [run_slice_lh w t _ _ _ ht .i64 .i64 _ _ (by omega) (by omega) (by omega), hz]
      rfl
    · subst e
      rw [run_slice_h w t _ _ _ ht .i64 _ (by omega) (by omega), hz]
      rfl
    · subst e
      rw [run_slice_l w t _ _ _ ht .i64 _ (by omega) (by omega), hz]
      rfl
    · have := hw.at.cut lo hi cap h1 h2 (by omega) (Nat.le_refl _)
      have e : sliced (some ⟨g, o, none⟩) lo hi cap size = .slice (some (cutAddr size g o lo cap)) (hi - lo) (cap - lo) := by
        unfold sliced cutAddr
        split <;> simp
      rw [e]
      exact this
end

section
variable {P : Program} {ops : Array Oper} {Q : Exit → Act → World → Prop} {W : World} {X : ChS} {B : List (Nat × Nat)} {dep : Nat → List Nat} {a : Act} {i s tt : Nat} {o : Oper}
/-- The step of an append, whatever came before. -/
theorem ChJ.stepApp (s : Nat) (ho : ops[i]? = some o) (hgd : o.guard = none) (ds dx : Operand) (t : TypeId) (hop : o.op = Op.call { callee := Callee.builtin Builtin.append, args := #[ds, dx], argTypes := #[t, t] }) (hdst : o.dst = some tt)
    (e : TypeId) (inf : TypeInfo) (z : Value) (size bytes : Nat) (h1 : P.underlying t = some (.slice e)) (h2 : P.info? e = some inf) (h3 : inf.zero = some z) (h4 : inf.size = size) (h5 : inf.bytes = bytes) (h6 : z.cells.size = size) (h7 : 0 < size)
    (m : Nat) (news : List Value) (hs : X.I.contains s = true) (hus : X.use s = i) (hdep : s ∈ dep i) (hsz : X.sz s = size) (hszi : X.sz i = size) (hn : X.n i = X.n s + m) (hc : X.cs i = X.cs s ++ news) (h1c : ∀ u ∈ news, u.oneCell' = true)
    (b1 : X.n s + m ≤ maxLen) (b2 : (X.n s + m) * bytes ≤ 140737488355328) (hev : ∀ xs, (fillA B xs a).eval ds = xs s)
    (hx : ∀ L xs w, (∀ j ∈ dep i, L j = true) → L i = false → ChJ W X L xs w → ∃ vx, (fillA B xs a).eval dx = vx ∧ Reads w size vx m news) : StepM P ops Q (ChJ W X) B dep a i tt := by
  refine StepM.of ho fun L xs w hd hl hJ K hK => ?_
  obtain ⟨vx, e1, e2⟩ := hx L xs w hd hl hJ
  have hv := (hJ.vec s (List.contains_iff_mem.1 hs) (hd s hdep) (by rw [hus]; exact hl)).1
  refine step_append_vec hgd ds dx t hop e inf z size bytes h1 h2 h3 h4 h5 h6 h7 (xs s) (X.n s) (X.cs s) (hev xs) (hsz ▸ hv) vx m news e1 e2 h1c b1 b2 ?_
  intro v' w' hv' ho' hb'
  exact hK _ _ (hJ.app hs hus (hd s hdep) hl (by rw [hszi, hn, hc]; exact hv') ho' hb') _ (by rw [hdst])
end
/-- Three are put together: what lies ahead, one, what lies behind (as in append(append(append(none, x[:p]..), one), x[p:]..)); by their numbers. -/
def chain3 (b1 a1 b2 a2 a3 : Nat) (sz p m : Nat) (c1 c2 c3 : List Value) : ChS :=
  { I := [b1, a1, b2, a2, a3], sz := fun _ => sz, n := fun i => if i = a1 then p else if i = b2 then 1 else if i = a2 then p + 1 else if i = a3 then p + 1 + m else 0,
    cs := fun i => if i = a1 then c1 else if i = b2 then c2 else if i = a2 then c1 ++ c2 else if i = a3 then c1 ++ c2 ++ c3 else [], use := fun i => if i = b1 then a1 else if i = a1 then a2 else if i = b2 then a2 else if i = a2 then a3 else 999 }
/-- Two are put together. -/
def chain2 (b1 a1 a2 : Nat) (sz p m : Nat) (c1 c2 : List Value) : ChS :=
  { I := [b1, a1, a2], sz := fun _ => sz, n := fun i => if i = a1 then p else if i = a2 then p + m else 0,
    cs := fun i => if i = a1 then c1 else if i = a2 then c1 ++ c2 else [], use := fun i => if i = b1 then a1 else if i = a1 then a2 else 999 }
end Go.Wh
