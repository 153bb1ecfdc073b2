/- Three concatenations that are laid in some order: what each leaves. Conditions: two nodes in memory. -/
import Derived.Test.YtjmkfppnimengaaTreeR
import Derived.Test.YtjmkfppnimengaaAnyM
namespace Go.Proofs.Ytjmkfppnimengaa
open Go.RowKit Go.Wh

/-- Two slices in a block of their own. -/
def Bx (w : World) (v : Value) (l : List Value) : Prop := ∃ g, v = .slice (some ⟨g, 0, none⟩) 2 2 ∧ cellsAt w g l
/-- A slice in new blocks. -/
def Sx (W w : World) (size n : Nat) (v : Value) (xs : List Value) : Prop := (∃ p c, v = .slice p n c) ∧ Vec w size v n xs ∧ ∀ g, v.ownBlock = some g → W.heap.size ≤ g ∧ g < w.heap.size
def Ap (u v : Value) : Prop := ∀ g, u.ownBlock = some g → v.ownBlock ≠ some g

theorem Bx.still {w w' : World} {v : Value} {l : List Value} (h : Bx w v l) (hs : Still w w') : Bx w' v l := by
  obtain ⟨g, h1, h2⟩ := h
  exact ⟨g, h1, cellsAt.still hs h2⟩
theorem Bx.new (w : World) (l : List Value) (t : TypeId) : Bx (w.alloc (.cells l.toArray t)) (.slice (some ⟨w.heap.size, 0, none⟩) 2 2) l := ⟨_, rfl, cellsAt_new w l t⟩
theorem Sx.still {W w w' : World} {size n : Nat} {v : Value} {xs : List Value} (h : Sx W w size n v xs) (hs : Still w w') : Sx W w' size n v xs :=
  ⟨h.1, h.2.1.only hs fun _ _ e => e, fun g hg => ⟨(h.2.2 g hg).1, Nat.lt_of_lt_of_le (h.2.2 g hg).2 hs.size⟩⟩
theorem Sx.of {W w w2 : World} {size n : Nat} {p : Option Addr} {c : Nat} {xs : List Value} (hw : Still W w) (h : Fre w w2 size n (.slice p n c) xs) : Sx W w2 size n (.slice p n c) xs :=
  ⟨⟨p, c, rfl⟩, h.vec, fun g hg => ⟨Nat.le_trans hw.size (h.own g hg).1, (h.own g hg).2⟩⟩
theorem Ap.of {W w w2 : World} {size n m size' : Nat} {u v : Value} {xs ys : List Value} (hu : Sx W w size' m u ys) (h : Fre w w2 size n v xs) : Ap u v := fun g hg e => by
  have := (hu.2.2 g hg).2
  have := (h.own g e).1
  omega

/-- What is there behind some of the six. -/
structure CatJ (W : World) (lk lv lc : List Value) (nk nv nc : Nat) (ks vs cs : List Value) (L : Nat → Bool) (xs : Nat → Value) (w : World) : Prop where
  s : Still W w
  b1 : L 11 = true → Bx w (xs 11) lk
  b2 : L 21 = true → Bx w (xs 21) lv
  b3 : L 31 = true → Bx w (xs 31) lc
  c1 : L 12 = true → Sx W w 1 nk (xs 12) ks
  c2 : L 22 = true → L 12 = true ∧ Sx W w 2 nv (xs 22) vs ∧ Ap (xs 12) (xs 22)
  c3 : L 32 = true → L 12 = true ∧ L 22 = true ∧ Sx W w 1 nc (xs 32) cs ∧ Ap (xs 12) (xs 32) ∧ Ap (xs 22) (xs 32)

section
variable {W w w' : World} {lk lv lc : List Value} {nk nv nc : Nat} {ks vs cs : List Value} {L : Nat → Bool} {xs : Nat → Value}

theorem CatJ.mono (h : CatJ W lk lv lc nk nv nc ks vs cs L xs w) (hs : Still w w') : CatJ W lk lv lc nk nv nc ks vs cs L xs w' :=
  ⟨h.s.trans hs, fun e => (h.b1 e).still hs, fun e => (h.b2 e).still hs, fun e => (h.b3 e).still hs, fun e => (h.c1 e).still hs, fun e => ⟨(h.c2 e).1, (h.c2 e).2.1.still hs, (h.c2 e).2.2⟩,
    fun e => ⟨(h.c3 e).1, (h.c3 e).2.1, (h.c3 e).2.2.1.still hs, (h.c3 e).2.2.2⟩⟩

theorem CatJ.start (hs : Still W w) (hl : ∀ j ∈ [11, 12, 21, 22, 31, 32], L j = false) : CatJ W lk lv lc nk nv nc ks vs cs L xs w := by
  refine ⟨hs, fun e => ?_, fun e => ?_, fun e => ?_, fun e => ?_, fun e => ?_, fun e => ?_⟩
  · rw [hl 11 (by simp)] at e; cases e
  · rw [hl 21 (by simp)] at e; cases e
  · rw [hl 31 (by simp)] at e; cases e
  · rw [hl 12 (by simp)] at e; cases e
  · rw [hl 22 (by simp)] at e; cases e
  · rw [hl 32 (by simp)] at e; cases e

theorem CatJ.b1' (h : CatJ W lk lv lc nk nv nc ks vs cs L xs w) (t : TypeId) : CatJ W lk lv lc nk nv nc ks vs cs (upN L 11 true) (upN xs 11 (.slice (some ⟨w.heap.size, 0, none⟩) 2 2)) (w.alloc (.cells lk.toArray t)) := by
  obtain ⟨s, b1, b2, b3, c1, c2, c3⟩ := h.mono ((Still.refl w).alloc (.cells lk.toArray t))
  exact ⟨s, fun _ => Bx.new w lk t, b2, b3, c1, c2, c3⟩
theorem CatJ.b2' (h : CatJ W lk lv lc nk nv nc ks vs cs L xs w) (t : TypeId) : CatJ W lk lv lc nk nv nc ks vs cs (upN L 21 true) (upN xs 21 (.slice (some ⟨w.heap.size, 0, none⟩) 2 2)) (w.alloc (.cells lv.toArray t)) := by
  obtain ⟨s, b1, b2, b3, c1, c2, c3⟩ := h.mono ((Still.refl w).alloc (.cells lv.toArray t))
  exact ⟨s, b1, fun _ => Bx.new w lv t, b3, c1, c2, c3⟩
theorem CatJ.b3' (h : CatJ W lk lv lc nk nv nc ks vs cs L xs w) (t : TypeId) : CatJ W lk lv lc nk nv nc ks vs cs (upN L 31 true) (upN xs 31 (.slice (some ⟨w.heap.size, 0, none⟩) 2 2)) (w.alloc (.cells lc.toArray t)) := by
  obtain ⟨s, b1, b2, b3, c1, c2, c3⟩ := h.mono ((Still.refl w).alloc (.cells lc.toArray t))
  exact ⟨s, b1, b2, fun _ => Bx.new w lc t, c1, c2, c3⟩
theorem CatJ.c1' (h : CatJ W lk lv lc nk nv nc ks vs cs L xs w) (h0 : L 12 = false) {p : Option Addr} {c : Nat} (hf : Fre w w' 1 nk (.slice p nk c) ks) : CatJ W lk lv lc nk nv nc ks vs cs (upN L 12 true) (upN xs 12 (.slice p nk c)) w' := by
  have hx := Sx.of h.s hf
  obtain ⟨s, b1, b2, b3, c1, c2, c3⟩ := h.mono hf.still
  exact ⟨s, b1, b2, b3, fun _ => hx, fun e => (by have := (c2 e).1; rw [h0] at this; cases this), fun e => (by have := (c3 e).1; rw [h0] at this; cases this)⟩
theorem CatJ.c2' (h : CatJ W lk lv lc nk nv nc ks vs cs L xs w) (h0 : L 22 = false) (h1 : L 12 = true) {p : Option Addr} {c : Nat} (hf : Fre w w' 2 nv (.slice p nv c) vs) : CatJ W lk lv lc nk nv nc ks vs cs (upN L 22 true) (upN xs 22 (.slice p nv c)) w' := by
  have hx := Sx.of h.s hf
  have ha := Ap.of (h.c1 h1) hf
  obtain ⟨s, b1, b2, b3, c1, c2, c3⟩ := h.mono hf.still
  exact ⟨s, b1, b2, b3, c1, fun _ => ⟨h1, hx, ha⟩, fun e => (by have := (c3 e).2.1; rw [h0] at this; cases this)⟩
theorem CatJ.c3' (h : CatJ W lk lv lc nk nv nc ks vs cs L xs w) (h1 : L 12 = true) (h2 : L 22 = true) {p : Option Addr} {c : Nat} (hf : Fre w w' 1 nc (.slice p nc c) cs) : CatJ W lk lv lc nk nv nc ks vs cs (upN L 32 true) (upN xs 32 (.slice p nc c)) w' := by
  have hx := Sx.of h.s hf
  have ha := Ap.of (h.c1 h1) hf
  have hb := Ap.of (h.c2 h2).2.1 hf
  obtain ⟨s, b1, b2, b3, c1, c2, c3⟩ := h.mono hf.still
  exact ⟨s, b1, b2, b3, c1, c2, fun _ => ⟨h1, h2, hx, ha, hb⟩⟩
end

/-- Three new slices are stored. -/
theorem cat_end {W w3 : World} {r n m p : Nat} {kv vv cv v1 v2 v3 : Value} {ks ks' : List Key} {vs vs' : List Rid} {cs cs' F : List Nat} (hn : NodeAt W r kv vv cv ks vs cs) (hF : F = foot r kv vv cv ∧ F.Nodup ∧ ∀ b ∈ F, b < W.heap.size) (hs : Still W w3)
    (K : Sx W w3 1 n v1 (kcells ks')) (V : Sx W w3 2 m v2 (rcells vs')) (C : Sx W w3 1 p v3 (pcells cs')) (a12 : Ap v1 v2) (a13 : Ap v1 v3) (a23 : Ap v2 v3) (h1 : n = ks'.length) (h2 : m = vs'.length) (h3 : p = cs'.length) :
    CatPost W r ks' vs' cs' F (((w3.setCell ⟨r, 0, none⟩ v1).setCell ⟨r, 1, none⟩ v2).setCell ⟨r, 2, none⟩ v3) := by
  subst h1 h2 h3
  have hr : r < W.heap.size := hF.2.2 r (hF.1 ▸ mem_foot.2 (.inl rfl))
  have o1 := K.2.2
  have o2 := V.2.2
  have o3 := C.2.2
  have q1 : v1.ownBlock ≠ some r := fun e => by have := o1 r e; omega
  have q2 : v2.ownBlock ≠ some r := fun e => by have := o2 r e; omega
  have q3 : v3.ownBlock ≠ some r := fun e => by have := o3 r e; omega
  have c3 : cellsAt w3 r [kv, vv, cv] := hn.cells.only hs fun e => e
  have c4 : cellsAt (((w3.setCell ⟨r, 0, none⟩ v1).setCell ⟨r, 1, none⟩ v2).setCell ⟨r, 2, none⟩ v3) r [v1, v2, v3] := ((c3.setCell 0 v1).setCell 1 v2).setCell 2 v3
  have hrF : r ∈ F := hF.1 ▸ mem_foot.2 (.inl rfl)
  have ho : Only (fun b => b ∈ F) W (((w3.setCell ⟨r, 0, none⟩ v1).setCell ⟨r, 1, none⟩ v2).setCell ⟨r, 2, none⟩ v3) := ((hs.only.setCell (p := ⟨r, 0, none⟩) (.inl hrF) v1).setCell (p := ⟨r, 1, none⟩) (.inl hrF) v2).setCell (p := ⟨r, 2, none⟩) (.inl hrF) v3
  have hz : (((w3.setCell ⟨r, 0, none⟩ v1).setCell ⟨r, 1, none⟩ v2).setCell ⟨r, 2, none⟩ v3).heap.size = w3.heap.size := by simp [World.setCell]
  have hA' : Apt r v1 v2 v3 :=
    ⟨fun b hb e => by subst e; exact q1 hb, fun b hb e => by subst e; exact q2 hb, fun b hb e => by subst e; exact q3 hb, a12, a13, a23⟩
  refine ⟨_, Raw.of ⟨c4, vec_set (vec_set (vec_set K.2.1 (p := ⟨r, 0, none⟩) q1 _) (p := ⟨r, 1, none⟩) q1 _) (p := ⟨r, 2, none⟩) q1 _, vec_set (vec_set (vec_set V.2.1 (p := ⟨r, 0, none⟩) q2 _) (p := ⟨r, 1, none⟩) q2 _) (p := ⟨r, 2, none⟩) q2 _,
    vec_set (vec_set (vec_set C.2.1 (p := ⟨r, 0, none⟩) q3 _) (p := ⟨r, 1, none⟩) q3 _) (p := ⟨r, 2, none⟩) q3 _⟩ hA' fun b hb => ?_, ho, fun b hb => ?_⟩
  · rw [hz]
    have := hs.size
    rcases mem_foot.1 hb with rfl | h | h | h
    · omega
    · exact (o1 b h).2
    · exact (o2 b h).2
    · exact (o3 b h).2
  · rcases mem_foot.1 hb with rfl | h | h | h
    · exact .inl hrF
    · exact .inr (o1 b h).1
    · exact .inr (o2 b h).1
    · exact .inr (o3 b h).1
end Go.Proofs.Ytjmkfppnimengaa
