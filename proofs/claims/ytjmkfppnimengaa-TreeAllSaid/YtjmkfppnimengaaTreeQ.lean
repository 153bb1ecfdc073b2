/- Two neighbours made one: what that comes to in memory. Conditions: two nodes in memory. -/
import Derived.Test.YtjmkfppnimengaaTreeL
namespace Go.Proofs.Ytjmkfppnimengaa
open Go.RowKit Go.Wh

structure Fre (w0 w2 : World) (size n : Nat) (v : Value) (xs : List Value) : Prop where
  vec : Vec w2 size v n xs
  still : Still w0 w2
  own : ∀ g, v.ownBlock = some g → w0.heap.size ≤ g ∧ g < w2.heap.size
theorem fre_of {w0 w2 : World} {size n : Nat} {xs : List Value} {e : Ending} (h : FreshPost w0 size n xs e w2) : ∃ a c, e = .returned (.slice a n c) ∧ Fre w0 w2 size n (.slice a n c) xs := by
  obtain ⟨v', rfl, hv, hb, ho⟩ := h
  obtain ⟨a, c, rfl⟩ := hv.form'
  exact ⟨a, c, rfl, hv, Only.ofBelow hb, ho⟩

theorem cellsAt_newE (w : World) (l : List Value) (t : TypeId) {g : Nat} (h : g = w.heap.size) : cellsAt (w.alloc (.cells l.toArray t)) g l := h ▸ cellsAt_new w l t
theorem cellsAt.still {w w' : World} {g : Nat} {l : List Value} (hs : Still w w') (h : cellsAt w g l) : cellsAt w' g l := h.only hs fun e => e
theorem Still.trans {a b c : World} (h : Still a b) (k : Still b c) : Still a c := Only.trans h k
theorem Still.alloc {a b : World} (h : Still a b) (o : Obj) : Still a (b.alloc o) := Only.alloc h o
theorem Still.drew {a b : World} (h : Still a b) : Still a b.drew := Only.drew h

/-- Three new slices are stored. -/
theorem cat3 {W w0 w1 u0 w2 z0 w3 : World} {r n m p : Nat} {kv vv cv v1 v2 v3 : Value} {ks ks' : List Key} {vs vs' : List Rid} {cs cs' F : List Nat} (hn : NodeAt W r kv vv cv ks vs cs) (hF : F = foot r kv vv cv ∧ F.Nodup ∧ ∀ b ∈ F, b < W.heap.size)
    (K : Fre w0 w1 1 n v1 (kcells ks')) (V : Fre u0 w2 2 m v2 (rcells vs')) (C : Fre z0 w3 1 p v3 (pcells cs')) (s0 : Still W w0) (s1 : Still w1 u0) (s2 : Still w2 z0) (h1 : n = ks'.length) (h2 : m = vs'.length) (h3 : p = cs'.length) :
    ∃ F', Raw (((w3.setCell ⟨r, 0, none⟩ v1).setCell ⟨r, 1, none⟩ v2).setCell ⟨r, 2, none⟩ v3) r ks' vs' cs' F' ∧ Only (fun b => b ∈ F) W (((w3.setCell ⟨r, 0, none⟩ v1).setCell ⟨r, 1, none⟩ v2).setCell ⟨r, 2, none⟩ v3) ∧ ∀ b ∈ F', b ∈ F ∨ W.heap.size ≤ b := by
  subst h1 h2 h3
  have hr : r < W.heap.size := hF.2.2 r (hF.1 ▸ mem_foot.2 (.inl rfl))
  have z1 := s0.size
  have z2 := K.still.size
  have z3 := s1.size
  have z4 := V.still.size
  have z5 := s2.size
  have z6 := C.still.size
  have hs : Still W w3 := ((((s0.trans K.still).trans s1).trans V.still).trans s2).trans C.still
  have o1 : ∀ g, v1.ownBlock = some g → W.heap.size ≤ g ∧ g < w1.heap.size := fun g hg => by have := K.own g hg; omega
  have o2 : ∀ g, v2.ownBlock = some g → w1.heap.size ≤ g ∧ g < w2.heap.size := fun g hg => by have := V.own g hg; omega
  have o3 : ∀ g, v3.ownBlock = some g → w2.heap.size ≤ g ∧ g < w3.heap.size := fun g hg => by have := C.own g hg; omega
  have q1 : v1.ownBlock ≠ some r := fun e => by have := o1 r e; omega
  have q2 : v2.ownBlock ≠ some r := fun e => by have := o2 r e; omega
  have q3 : v3.ownBlock ≠ some r := fun e => by have := o3 r e; omega
  have k3 : Vec w3 1 v1 ks'.length (kcells ks') := K.vec.only (((s1.trans V.still).trans s2).trans C.still) fun _ _ e => e
  have u3 : Vec w3 2 v2 vs'.length (rcells vs') := V.vec.only (s2.trans C.still) fun _ _ e => e
  have c3 : cellsAt w3 r [kv, vv, cv] := hn.cells.only hs fun e => e
  have c4 : cellsAt (((w3.setCell ⟨r, 0, none⟩ v1).setCell ⟨r, 1, none⟩ v2).setCell ⟨r, 2, none⟩ v3) r [v1, v2, v3] := ((c3.setCell 0 v1).setCell 1 v2).setCell 2 v3
  have hrF : r ∈ F := hF.1 ▸ mem_foot.2 (.inl rfl)
  have ho : Only (fun b => b ∈ F) W (((w3.setCell ⟨r, 0, none⟩ v1).setCell ⟨r, 1, none⟩ v2).setCell ⟨r, 2, none⟩ v3) := ((hs.only.setCell (p := ⟨r, 0, none⟩) (.inl hrF) v1).setCell (p := ⟨r, 1, none⟩) (.inl hrF) v2).setCell (p := ⟨r, 2, none⟩) (.inl hrF) v3
  have hz : (((w3.setCell ⟨r, 0, none⟩ v1).setCell ⟨r, 1, none⟩ v2).setCell ⟨r, 2, none⟩ v3).heap.size = w3.heap.size := by simp [World.setCell]
  have nw : ∀ (v v' : Value), (∀ g, v'.ownBlock = some g → W.heap.size ≤ g ∧ g < w3.heap.size) → Nw W.heap.size w3.heap.size v v' ∨ v'.ownBlock = none := fun v v' h => by
    cases hv : v'.ownBlock with
    | none => exact .inr rfl
    | some g => exact .inl (.inr ⟨g, hv, h g hv⟩)
  -- where a slice has no block at all it is in none
  have hk : ∀ b, v1.ownBlock = some b → (kv.ownBlock = some b ∨ (W.heap.size ≤ b ∧ b < w3.heap.size)) := fun b hb => .inr (by have := o1 b hb; omega)
  have hA' : Apt r v1 v2 v3 :=
    ⟨fun b hb e => by subst e; exact q1 hb, fun b hb e => by subst e; exact q2 hb, fun b hb e => by subst e; exact q3 hb,
      fun b hb e => by have := o1 b hb; have := o2 b e; omega, fun b hb e => by have := o1 b hb; have := o3 b e; omega, fun b hb e => by have := o2 b hb; have := o3 b e; omega⟩
  refine ⟨_, Raw.of ⟨c4, vec_set (vec_set (vec_set k3 (p := ⟨r, 0, none⟩) q1 _) (p := ⟨r, 1, none⟩) q1 _) (p := ⟨r, 2, none⟩) q1 _, vec_set (vec_set (vec_set u3 (p := ⟨r, 0, none⟩) q2 _) (p := ⟨r, 1, none⟩) q2 _) (p := ⟨r, 2, none⟩) q2 _,
    vec_set (vec_set (vec_set C.vec (p := ⟨r, 0, none⟩) q3 _) (p := ⟨r, 1, none⟩) q3 _) (p := ⟨r, 2, none⟩) q3 _⟩ hA' fun b hb => ?_, ho, fun b hb => ?_⟩
  · rw [hz]
    rcases mem_foot.1 hb with rfl | h | h | h
    · omega
    · have := o1 b h; omega
    · have := o2 b h; omega
    · have := o3 b h; omega
  · rcases mem_foot.1 hb with rfl | h | h | h
    · exact .inl hrF
    · have := o1 b h; exact .inr (by omega)
    · have := o2 b h; exact .inr (by omega)
    · have := o3 b h; exact .inr (by omega)

/-- Two trees of a level, whose nodes become one. -/
theorem At.cat {d : Nat} {w : World} {a b : Nat} {la lb : Nd d} {Fa Fb : List Nat} (ha : At d w a la Fa) (hb : At d w b lb Fb) (hd : (Fa ++ Fb).Nodup) :
    ∃ va ca Ga vb cb Gb, Raw w a (keys la) va ca Ga ∧ Raw w b (keys lb) vb cb Gb ∧ (∀ x ∈ Ga, x ∈ Fa) ∧ (∀ x ∈ Gb, x ∈ Fb) ∧ va.length ≤ la.length ∧ ca.length ≤ la.length ∧ vb.length ≤ lb.length ∧ cb.length ≤ lb.length ∧
      ∀ w' Ga', Raw w' a (keys la ++ keys lb) (va ++ vb) (ca ++ cb) Ga' → Only (fun x => x ∈ Ga) w w' → (∀ x ∈ Ga', x ∈ Ga ∨ w.heap.size ≤ x) → ∃ F', At d w' a (la ++ lb) F' ∧ ∀ x ∈ F', x ∈ Fa ++ Fb ∨ w.heap.size ≤ x := by
  cases d with
  | zero =>
    refine ⟨vals la, [], Fa, vals lb, [], Fb, ha, hb, fun _ h => h, fun _ h => h, by rw [vals_length]; omega, by simp, by rw [vals_length]; omega, by simp, fun w' Ga' hr ho hs => ⟨Ga', ?_, fun x hx => ?_⟩⟩
    · have : At 0 w' a (la ++ lb) Ga' := by
        show Raw w' a (keys (la ++ lb)) (vals (la ++ lb)) [] Ga'
        rw [keys_append, vals_append]
        exact hr
      exact this
    · rcases hs x hx with h | h
      · exact .inl (List.mem_append_left _ h)
      · exact .inr h
  | succ d =>
    obtain ⟨ra, Ga, Ha, h1, h2, h3, h4⟩ := ha
    obtain ⟨rb, Gb, Hb, k1, k2, k3, k4⟩ := hb
    subst h3 k3
    have e1 := h2.lenR
    have e2 := k2.lenR
    rw [subs_length] at e1 e2
    have hlt : ∀ x ∈ Ha.flatten ++ Hb.flatten, x < w.heap.size := fun x hx => by
      rcases List.mem_append.1 hx with hx | hx
      · obtain ⟨f, hf, hxf⟩ := List.mem_flatten.1 hx
        exact h2.all (P := fun f => ∀ b ∈ f, b < w.heap.size) (fun _ _ _ h => At.lt h) f hf x hxf
      · obtain ⟨f, hf, hxf⟩ := List.mem_flatten.1 hx
        exact k2.all (P := fun f => ∀ b ∈ f, b < w.heap.size) (fun _ _ _ h => At.lt h) f hf x hxf
    have hd1 := List.nodup_append.1 hd
    have hda := List.nodup_append.1 h4
    have hdb := List.nodup_append.1 k4
    refine ⟨[], ra, Ga, [], rb, Gb, h1, k1, fun x hx => List.mem_append_left _ hx, fun x hx => List.mem_append_left _ hx, by simp, by omega, by simp, by omega, fun w' Ga' hr ho hs => ⟨Ga' ++ (Ha ++ Hb).flatten, ⟨ra ++ rb, Ga', Ha ++ Hb, ?_, ?_, rfl, ?_⟩, fun x hx => ?_⟩⟩
    · rw [keys_append]
      exact hr
    · rw [subs_append]
      exact (h2.imp fun r q f hf h => h.only ho fun x hx hg => hda.2.2 x hg x (List.mem_flatten.2 ⟨f, hf, hx⟩) rfl).append
        (k2.imp fun r q f hf h => h.only ho fun x hx hg => hd1.2.2 x (List.mem_append_left _ hg) x (List.mem_append_right _ (List.mem_flatten.2 ⟨f, hf, hx⟩)) rfl)
    · rw [List.flatten_append]
      refine List.nodup_append.2 ⟨hr.nodup, List.nodup_append.2 ⟨hda.2.1, hdb.2.1, fun x hx y hy => hd1.2.2 x (List.mem_append_right _ hx) y (List.mem_append_right _ hy)⟩, fun x hx y hy e => ?_⟩
      subst e
      rcases hs x hx with h | h
      · rcases List.mem_append.1 hy with hy | hy
        · exact hda.2.2 x h x hy rfl
        · exact hd1.2.2 x (List.mem_append_left _ h) x (List.mem_append_right _ hy) rfl
      · have := hlt x hy
        omega
    · rw [List.flatten_append] at hx
      simp only [List.mem_append] at hx ⊢
      rcases hx with hx | hx | hx
      · rcases hs x hx with h | h
        · exact .inl (.inl (.inl h))
        · exact .inr h
      · exact .inl (.inl (.inr hx))
      · exact .inl (.inr (.inr hx))

/-- A child that is too small is one with its neighbour, or has some of it. -/
def halves {d : Nat} (c : Nd d) : List (Nd d) := if c.length ≤ 4 then [c] else [c.take (c.length / 2), c.drop (c.length / 2)]
def at' {d : Nat} (cs : List (Nd d)) (i : Nat) : Nd d := (cs[i]?).getD []
def joinC {d : Nat} (cs : List (Nd d)) (i : Nat) : List (Nd d) :=
  if 2 ≤ (at' cs i).length ∨ cs.length < 2 then cs else cs.take (i - 1) ++ (halves (at' cs (i - 1) ++ at' cs (i - 1 + 1)) ++ cs.drop (i - 1 + 2))
end Go.Proofs.Ytjmkfppnimengaa
