/- A node in memory: its keys, places, children, and the blocks it is made of. No conditions. -/
import Derived.Test.YtjmkfppnimengaaTreeM
namespace Go.Proofs.Ytjmkfppnimengaa
open Go.RowKit Go.Wh

/-- Nothing that was there has turned. -/
def Still (w w' : World) : Prop := Only (fun _ => False) w w'
theorem Still.refl (w : World) : Still w w := Only.refl _ _
theorem Still.only {S : Nat → Prop} {w w' : World} (h : Still w w') : Only S w w' := Only.mono h fun _ e => e.elim
theorem Still.below {w w' : World} (h : Still w w') : Below w.heap.size w w' := Only.below h (Nat.le_refl _) fun _ _ e => e

theorem kcells_get {l : List Key} {i : Nat} {a : Key} (h : l[i]? = some a) : (kcells l)[i]? = some (.string a) := by
  unfold kcells
  rw [List.getElem?_map, h]
  rfl
theorem pcells_get {l : List Nat} {i a : Nat} (h : l[i]? = some a) : (pcells l)[i]? = some (ptr a) := by
  unfold pcells
  rw [List.getElem?_map, h]
  rfl

/-- The block that a slice lies in. -/
def ownL (v : Value) : List Nat := v.ownBlock.toList
theorem mem_ownL {v : Value} {b : Nat} : b ∈ ownL v ↔ v.ownBlock = some b := by simp [ownL]

structure NodeAt (w : World) (r : Nat) (kv vv cv : Value) (ks : List Key) (vs : List Rid) (cs : List Nat) : Prop where
  cells : cellsAt w r [kv, vv, cv]
  k : Vec w 1 kv ks.length (kcells ks)
  v : Vec w 2 vv vs.length (rcells vs)
  c : Vec w 1 cv cs.length (pcells cs)

def foot (r : Nat) (kv vv cv : Value) : List Nat := r :: (ownL kv ++ (ownL vv ++ ownL cv))

/-- A node, with its blocks. -/
def Raw (w : World) (r : Nat) (ks : List Key) (vs : List Rid) (cs : List Nat) (F : List Nat) : Prop :=
  ∃ kv vv cv, NodeAt w r kv vv cv ks vs cs ∧ F = foot r kv vv cv ∧ F.Nodup ∧ ∀ b ∈ F, b < w.heap.size

section
variable {w w' : World} {r : Nat} {kv vv cv : Value} {ks : List Key} {vs : List Rid} {cs : List Nat} {F : List Nat} {S : Nat → Prop}

theorem mem_foot {b : Nat} : b ∈ foot r kv vv cv ↔ b = r ∨ kv.ownBlock = some b ∨ vv.ownBlock = some b ∨ cv.ownBlock = some b := by
  simp [foot, mem_ownL]

theorem NodeAt.only (h : NodeAt w r kv vv cv ks vs cs) (ho : Only S w w') (hs : ∀ b ∈ foot r kv vv cv, ¬ S b) : NodeAt w' r kv vv cv ks vs cs :=
  ⟨h.cells.only ho (hs r (mem_foot.2 (.inl rfl))), h.k.only ho fun g hg => hs g (mem_foot.2 (.inr (.inl hg))), h.v.only ho fun g hg => hs g (mem_foot.2 (.inr (.inr (.inl hg)))), h.c.only ho fun g hg => hs g (mem_foot.2 (.inr (.inr (.inr hg))))⟩

theorem Raw.only (h : Raw w r ks vs cs F) (ho : Only S w w') (hs : ∀ b ∈ F, ¬ S b) : Raw w' r ks vs cs F := by
  obtain ⟨kv, vv, cv, hn, rfl, hd, hl⟩ := h
  exact ⟨kv, vv, cv, hn.only ho hs, rfl, hd, fun b hb => Nat.lt_of_lt_of_le (hl b hb) ho.size⟩

theorem Raw.still (h : Raw w r ks vs cs F) (ho : Still w w') : Raw w' r ks vs cs F := h.only ho fun _ _ e => e
theorem Raw.lt (h : Raw w r ks vs cs F) : ∀ b ∈ F, b < w.heap.size := by
  obtain ⟨_, _, _, _, _, _, hl⟩ := h
  exact hl
theorem Raw.nodup (h : Raw w r ks vs cs F) : F.Nodup := by
  obtain ⟨_, _, _, _, _, hd, _⟩ := h
  exact hd
theorem Raw.self (h : Raw w r ks vs cs F) : r ∈ F := by
  obtain ⟨_, _, _, _, rfl, _, _⟩ := h
  simp [foot]

/-- The blocks of a node are apart. -/
structure Apt (r : Nat) (kv vv cv : Value) : Prop where
  rk : ∀ b, kv.ownBlock = some b → b ≠ r
  rv : ∀ b, vv.ownBlock = some b → b ≠ r
  rc : ∀ b, cv.ownBlock = some b → b ≠ r
  akv : ∀ b, kv.ownBlock = some b → vv.ownBlock ≠ some b
  akc : ∀ b, kv.ownBlock = some b → cv.ownBlock ≠ some b
  avc : ∀ b, vv.ownBlock = some b → cv.ownBlock ≠ some b

theorem nodup3 (r : Nat) (a b c : Option Nat) : (r :: (a.toList ++ (b.toList ++ c.toList))).Nodup ↔ (∀ x, a = some x → x ≠ r) ∧ (∀ x, b = some x → x ≠ r) ∧ (∀ x, c = some x → x ≠ r) ∧ (∀ x, a = some x → b ≠ some x) ∧ (∀ x, a = some x → c ≠ some x) ∧ (∀ x, b = some x → c ≠ some x) := by
  cases a <;> cases b <;> cases c <;> simp <;> omega

theorem foot_nodup : (foot r kv vv cv).Nodup ↔ Apt r kv vv cv := by
  refine (nodup3 r kv.ownBlock vv.ownBlock cv.ownBlock).trans ⟨fun ⟨h1, h2, h3, h4, h5, h6⟩ => ⟨h1, h2, h3, h4, h5, h6⟩, fun ⟨h1, h2, h3, h4, h5, h6⟩ => ⟨h1, h2, h3, h4, h5, h6⟩⟩

theorem vec_set {size n : Nat} {v : Value} {xs : List Value} {p : Addr} (h : Vec w size v n xs) (hp : v.ownBlock ≠ some p.block) (u : Value) : Vec (w.setCell p u) size v n xs :=
  h.kept fun _ hg _ => Below.heap_setCell w p u _ (fun e => hp (by rw [hg, e]))

theorem NodeAt.setK {u : Value} {ks' : List Key} (h : NodeAt w r kv vv cv ks vs cs) (ha : Apt r kv vv cv) (hu : Vec w 1 u ks'.length (kcells ks')) (hur : u.ownBlock ≠ some r) : NodeAt (w.setCell ⟨r, 0, none⟩ u) r u vv cv ks' vs cs :=
  ⟨h.cells.setCell 0 u, vec_set hu hur u, vec_set h.v (fun e => ha.rv r e rfl) u, vec_set h.c (fun e => ha.rc r e rfl) u⟩
theorem NodeAt.setV {u : Value} {vs' : List Rid} (h : NodeAt w r kv vv cv ks vs cs) (ha : Apt r kv vv cv) (hu : Vec w 2 u vs'.length (rcells vs')) (hur : u.ownBlock ≠ some r) : NodeAt (w.setCell ⟨r, 1, none⟩ u) r kv u cv ks vs' cs :=
  ⟨h.cells.setCell 1 u, vec_set h.k (fun e => ha.rk r e rfl) u, vec_set hu hur u, vec_set h.c (fun e => ha.rc r e rfl) u⟩
theorem NodeAt.setC {u : Value} {cs' : List Nat} (h : NodeAt w r kv vv cv ks vs cs) (ha : Apt r kv vv cv) (hu : Vec w 1 u cs'.length (pcells cs')) (hur : u.ownBlock ≠ some r) : NodeAt (w.setCell ⟨r, 2, none⟩ u) r kv vv u ks vs cs' :=
  ⟨h.cells.setCell 2 u, vec_set h.k (fun e => ha.rk r e rfl) u, vec_set h.v (fun e => ha.rv r e rfl) u, vec_set hu hur u⟩
theorem setCell_only (w : World) (p : Addr) (u : Value) : Only (fun k => k = p.block) w (w.setCell p u) := (Only.refl (fun k => k = p.block) w).setCell (.inl rfl) u
theorem NodeAt.setOther (h : NodeAt w r kv vv cv ks vs cs) {p : Addr} (hp : p.block ∉ foot r kv vv cv) (u : Value) : NodeAt (w.setCell p u) r kv vv cv ks vs cs :=
  h.only (setCell_only w p u) fun _ hb e => hp (e ▸ hb)
theorem NodeAt.alloc (h : NodeAt w r kv vv cv ks vs cs) (ob : Obj) : NodeAt (w.alloc ob) r kv vv cv ks vs cs := ⟨h.cells.alloc ob, h.k.alloc ob, h.v.alloc ob, h.c.alloc ob⟩
/-- A new node. -/
theorem NodeAt.new {kv : Value} (t : TypeId) (h : Vec w 1 kv ks.length (kcells ks)) : NodeAt (w.alloc (.cells #[kv, .slice none 0 0, .slice none 0 0] t)) w.heap.size kv (.slice none 0 0) (.slice none 0 0) ks [] [] :=
  ⟨cellsAt_new w [kv, .slice none 0 0, .slice none 0 0] t, h.alloc _, Vec.nil _ _, Vec.nil _ _⟩
theorem Raw.of (h : NodeAt w r kv vv cv ks vs cs) (ha : Apt r kv vv cv) (hl : ∀ b ∈ foot r kv vv cv, b < w.heap.size) : Raw w r ks vs cs (foot r kv vv cv) := ⟨kv, vv, cv, h, rfl, foot_nodup.2 ha, hl⟩
theorem Apt.new {r : Nat} {kv : Value} (h : ∀ b, kv.ownBlock = some b → b ≠ r) : Apt r kv (.slice none 0 0) (.slice none 0 0) :=
  ⟨h, (by intro b e; cases e), (by intro b e; cases e), (by intro b _ e; cases e), (by intro b _ e; cases e), (by intro b e; cases e)⟩
theorem Apt.newC {r : Nat} {kv cv : Value} (h : ∀ b, kv.ownBlock = some b → b ≠ r) (hc : ∀ b, cv.ownBlock = some b → b ≠ r) (hkc : ∀ b, kv.ownBlock = some b → cv.ownBlock ≠ some b) : Apt r kv (.slice none 0 0) cv :=
  ⟨h, (by intro b e; cases e), hc, (by intro b _ e; cases e), hkc, (by intro b e; cases e)⟩
theorem Apt.newV {r : Nat} {kv vv : Value} (h : ∀ b, kv.ownBlock = some b → b ≠ r) (hc : ∀ b, vv.ownBlock = some b → b ≠ r) (hkc : ∀ b, kv.ownBlock = some b → vv.ownBlock ≠ some b) : Apt r kv vv (.slice none 0 0) :=
  ⟨h, hc, (by intro b e; cases e), hkc, (by intro b _ e; cases e), (by intro b _ e; cases e)⟩
end
end Go.Proofs.Ytjmkfppnimengaa
