/- What gathers keys and places, one by one, up to so many. Conditions: where it gathers lies in memory. -/
import Derived.Test.YtjmkfppnimengaaTreeGa
import Derived.Test.YtjmkfppnimengaaTreeIs
import Derived.Test.YtjmkfppnimengaaTreeIr
import Derived.Test.YtjmkfppnimengaaAnyM
namespace Go.Proofs.Ytjmkfppnimengaa
open Go.RowKit Go.Wh

/-- No more is wanted. -/
def full (most : Int) (a : Nd 0) : Bool := decide (0 ≤ most) && decide (most ≤ (a.length : Int))
def gather (most : Int) : Nd 0 → Nd 0 → Nd 0 × Bool
  | a, [] => (a, true)
  | a, e :: l => if full most a then (a, false) else gather most (a ++ [e]) l

theorem gather_append (most : Int) : ∀ (l m a : Nd 0), gather most a (l ++ m) = if (gather most a l).2 then gather most (gather most a l).1 m else gather most a l
  | [], m, a => rfl
  | e :: l, m, a => by
    rw [List.cons_append]
    have e1 : ∀ b : Nd 0, gather most a (e :: b) = if full most a then (a, false) else gather most (a ++ [e]) b := fun _ => rfl
    rw [e1, e1]
    cases hf : full most a with
    | true => simp
    | false =>
      simp only [Bool.false_eq_true, if_false]
      exact gather_append most l m _

/-- Where it is gathered. -/
structure GathV (w : World) (mb kb vb : Nat) (most : Int) (a : Nd 0) (N : Nat) (kv vv : Value) : Prop where
  m : cellsAt w mb [.int .i64 most]
  k : cellsAt w kb [kv]
  v : cellsAt w vb [vv]
  kk : Vec w 1 kv a.length (kcells (keys a))
  vk : Vec w 2 vv a.length (rcells (vals a))
  ok : ∀ g, kv.ownBlock = some g → N ≤ g ∧ g < w.heap.size ∧ g ≠ mb ∧ g ≠ kb ∧ g ≠ vb
  ov : ∀ g, vv.ownBlock = some g → N ≤ g ∧ g < w.heap.size ∧ g ≠ mb ∧ g ≠ kb ∧ g ≠ vb
  ap : ∀ g, kv.ownBlock = some g → vv.ownBlock ≠ some g
  n1 : mb ≠ kb
  n2 : mb ≠ vb
  n3 : kb ≠ vb
  nm : N ≤ mb ∧ N ≤ kb ∧ N ≤ vb
def Gath (w : World) (mb kb vb : Nat) (most : Int) (a : Nd 0) (N : Nat) : Prop := ∃ kv vv, GathV w mb kb vb most a N kv vv

theorem GathV.only {w w' : World} {mb kb vb N : Nat} {most : Int} {a : Nd 0} {kv vv : Value} {S : Nat → Prop} (h : GathV w mb kb vb most a N kv vv) (ho : Only S w w') (hs : ∀ b, S b → b < N) : GathV w' mb kb vb most a N kv vv :=
  ⟨h.m.only ho fun e => by have := hs _ e; have := h.nm; omega, h.k.only ho fun e => by have := hs _ e; have := h.nm; omega, h.v.only ho fun e => by have := hs _ e; have := h.nm; omega,
    h.kk.only ho fun g hg e => by have := hs _ e; have := h.ok g hg; omega, h.vk.only ho fun g hg e => by have := hs _ e; have := h.ov g hg; omega,
    fun g hg => by have := h.ok g hg; have := ho.size; omega, fun g hg => by have := h.ov g hg; have := ho.size; omega, h.ap, h.n1, h.n2, h.n3, h.nm⟩
theorem Gath.only {w w' : World} {mb kb vb N : Nat} {most : Int} {a : Nd 0} {S : Nat → Prop} (h : Gath w mb kb vb most a N) (ho : Only S w w') (hs : ∀ b, S b → b < N) : Gath w' mb kb vb most a N := by
  obtain ⟨kv, vv, h⟩ := h
  exact ⟨kv, vv, h.only ho hs⟩

/-- Two appends, each behind its built row, in whatever order. -/
structure AppJ (W : World) (kv vv : Value) (n : Nat) (kc vc : List Value) (yk : Value) (y1 y2 : Value) (L : Nat → Bool) (xs : Nat → Value) (w : World) : Prop where
  all : Only (fun b => kv.ownBlock = some b ∨ vv.ownBlock = some b) W w
  b1 : L 2 = true → ∃ g, xs 2 = .slice (some ⟨g, 0, none⟩) 1 1 ∧ cellsAt w g [yk] ∧ W.heap.size ≤ g
  b2 : L 6 = true → ∃ g, xs 6 = .slice (some ⟨g, 0, none⟩) 1 1 ∧ cellsAt w g [y1, y2] ∧ W.heap.size ≤ g
  a0 : L 3 = false → Vec w 1 kv n kc
  a1 : L 3 = true → Vec w 1 (xs 3) (n + 1) (kc ++ [yk]) ∧ Nw W.heap.size w.heap.size kv (xs 3)
  c0 : L 7 = false → Vec w 2 vv n vc
  c1 : L 7 = true → L 3 = true ∧ Vec w 2 (xs 7) (n + 1) (vc ++ [y1, y2]) ∧ Nw W.heap.size w.heap.size vv (xs 7) ∧ ∀ g, W.heap.size ≤ g → (xs 3).ownBlock = some g → (xs 7).ownBlock ≠ some g

section
variable {W w w' : World} {kv vv : Value} {n : Nat} {kc vc : List Value} {yk y1 y2 : Value} {L : Nat → Bool} {xs : Nat → Value}

theorem Nw.more {N M M' : Nat} {v v' : Value} (h : Nw N M v v') (hm : M ≤ M') : Nw N M' v v' := h.imp id fun ⟨g, h1, h2, h3⟩ => ⟨g, h1, h2, Nat.lt_of_lt_of_le h3 hm⟩

theorem AppJ.start (hs : Still W w) (hk : Vec w 1 kv n kc) (hv : Vec w 2 vv n vc) (hl : ∀ j ∈ [2, 3, 6, 7], L j = false) : AppJ W kv vv n kc vc yk y1 y2 L xs w := by
  refine ⟨hs.only, fun e => ?_, fun e => ?_, fun _ => hk, fun e => ?_, fun _ => hv, fun e => ?_⟩
  · rw [hl 2 (by simp)] at e; cases e
  · rw [hl 6 (by simp)] at e; cases e
  · rw [hl 3 (by simp)] at e; cases e
  · rw [hl 7 (by simp)] at e; cases e
theorem AppJ.alloc (h : AppJ W kv vv n kc vc yk y1 y2 L xs w) (o : Obj) : AppJ W kv vv n kc vc yk y1 y2 L xs (w.alloc o) := by
  obtain ⟨all, b1, b2, a0, a1, c0, c1⟩ := h
  have hz : w.heap.size ≤ (w.alloc o).heap.size := by simp
  refine ⟨all.alloc _, fun e => ?_, fun e => ?_, fun e => (a0 e).alloc _, fun e => ⟨(a1 e).1.alloc _, (a1 e).2.more hz⟩, fun e => (c0 e).alloc _, fun e => ⟨(c1 e).1, (c1 e).2.1.alloc _, (c1 e).2.2.1.more hz, (c1 e).2.2.2⟩⟩
  · obtain ⟨g, h1, h2, h3⟩ := b1 e
    exact ⟨g, h1, h2.alloc _, h3⟩
  · obtain ⟨g, h1, h2, h3⟩ := b2 e
    exact ⟨g, h1, h2.alloc _, h3⟩
theorem AppJ.b1' (h : AppJ W kv vv n kc vc yk y1 y2 L xs w) (t : TypeId) : AppJ W kv vv n kc vc yk y1 y2 (upN L 2 true) (upN xs 2 (.slice (some ⟨w.heap.size, 0, none⟩) 1 1)) (w.alloc (.cells #[yk] t)) := by
  have hs := h.all.size
  obtain ⟨all, b1, b2, a0, a1, c0, c1⟩ := h.alloc (.cells #[yk] t)
  exact ⟨all, fun _ => ⟨_, rfl, cellsAt_new w [yk] t, hs⟩, b2, a0, a1, c0, c1⟩
theorem AppJ.b2' (h : AppJ W kv vv n kc vc yk y1 y2 L xs w) (t : TypeId) : AppJ W kv vv n kc vc yk y1 y2 (upN L 6 true) (upN xs 6 (.slice (some ⟨w.heap.size, 0, none⟩) 1 1)) (w.alloc (.cells #[y1, y2] t)) := by
  have hs := h.all.size
  obtain ⟨all, b1, b2, a0, a1, c0, c1⟩ := h.alloc (.cells #[y1, y2] t)
  exact ⟨all, b1, fun _ => ⟨_, rfl, cellsAt_new w [y1, y2] t, hs⟩, a0, a1, c0, c1⟩
theorem AppJ.c1' (h : AppJ W kv vv n kc vc yk y1 y2 L xs w) (h0 : L 3 = false) (hkW : ∀ g, kv.ownBlock = some g → g < W.heap.size) (hap : ∀ g, kv.ownBlock = some g → vv.ownBlock ≠ some g) {v' : Value} (hv : Vec w' 1 v' (n + 1) (kc ++ [yk])) (ho : Only (fun b => kv.ownBlock = some b) w w')
    (hn : v'.ownBlock = kv.ownBlock ∨ ∃ g, v'.ownBlock = some g ∧ w.heap.size ≤ g ∧ g < w'.heap.size) : AppJ W kv vv n kc vc yk y1 y2 (upN L 3 true) (upN xs 3 v') w' := by
  obtain ⟨all, b1, b2, a0, a1, c0, c1⟩ := h
  refine ⟨all.trans (ho.mono fun _ e => .inl e), fun e => ?_, fun e => ?_, fun e => (by cases e), fun _ => ⟨hv, hn.imp id fun ⟨g, h1, h2, h3⟩ => ⟨g, h1, Nat.le_trans all.size h2, h3⟩⟩, fun e => ?_, fun e => ?_⟩
  · obtain ⟨g, h1, h2, h3⟩ := b1 e
    exact ⟨g, h1, h2.only ho fun e => by have := hkW g e; omega, h3⟩
  · obtain ⟨g, h1, h2, h3⟩ := b2 e
    exact ⟨g, h1, h2.only ho fun e => by have := hkW g e; omega, h3⟩
  · exact (c0 e).only ho fun g hg e' => hap g e' hg
  · have := (c1 e).1
    rw [h0] at this
    cases this
theorem AppJ.c2' (h : AppJ W kv vv n kc vc yk y1 y2 L xs w) (h1 : L 3 = true) (hkW : ∀ g, kv.ownBlock = some g → g < W.heap.size) (hvW : ∀ g, vv.ownBlock = some g → g < W.heap.size) (hap : ∀ g, kv.ownBlock = some g → vv.ownBlock ≠ some g) {v' : Value} (hv : Vec w' 2 v' (n + 1) (vc ++ [y1, y2])) (ho : Only (fun b => vv.ownBlock = some b) w w')
    (hn : v'.ownBlock = vv.ownBlock ∨ ∃ g, v'.ownBlock = some g ∧ w.heap.size ≤ g ∧ g < w'.heap.size) : AppJ W kv vv n kc vc yk y1 y2 (upN L 7 true) (upN xs 7 v') w' := by
  obtain ⟨all, b1, b2, a0, a1, c0, c1⟩ := h
  have hx3 : ∀ g, (xs 3).ownBlock = some g → vv.ownBlock ≠ some g := fun g hg e => by
    rcases (a1 h1).2.cases hg with h | h
    · exact hap g h e
    · have := hvW g e; omega
  refine ⟨all.trans (ho.mono fun _ e => .inr e), fun e => ?_, fun e => ?_, fun e => ?_, fun _ => ⟨(a1 h1).1.only ho fun g hg e => hx3 g hg e, (a1 h1).2.more ho.size⟩, fun e => (by cases e), fun _ => ⟨h1, hv, hn.imp id fun ⟨g, h1, h2, h3⟩ => ⟨g, h1, Nat.le_trans all.size h2, h3⟩, fun g hg e1 e2 => ?_⟩⟩
  · obtain ⟨g, h1, h2, h3⟩ := b1 e
    exact ⟨g, h1, h2.only ho fun e => by have := hvW g e; omega, h3⟩
  · obtain ⟨g, h1, h2, h3⟩ := b2 e
    exact ⟨g, h1, h2.only ho fun e => by have := hvW g e; omega, h3⟩
  · have e' : L 3 = false := e
    rw [h1] at e'
    cases e'
  · have e1' : (xs 3).ownBlock = some g := e1
    have e2' : v'.ownBlock = some g := e2
    rcases hn with h | ⟨g', h2, h3, h4⟩
    · rw [h] at e2'
      have := hvW g e2'
      omega
    · rw [h2] at e2'
      injection e2' with e2'
      rcases (a1 h1).2.cases e1' with h | h
      · have := hkW g h; omega
      · omega
end

/-- What a step leaves: told whether it is full. -/
def EachPost (w : World) (mb kb vb : Nat) (most : Int) (a : Nd 0) (N : Nat) (k : Key) (v : Rid) (e : Ending) (w' : World) : Prop :=
  e = .returned (.bool !(full most a)) ∧ Gath w' mb kb vb most (if full most a then a else a ++ [kr k v]) N ∧ Only (fun b => N ≤ b) w w'

/-- The two stores. -/
theorem gath_end {W w : World} {mb kb vb N n : Nat} {most : Int} {a : Nd 0} {kv vv v1 v2 : Value} {k : Key} {v : Rid} (h : GathV W mb kb vb most a N kv vv) (ho : Only (fun b => kv.ownBlock = some b ∨ vv.ownBlock = some b) W w) (hn : n = a.length)
    (h1 : Vec w 1 v1 (n + 1) (kcells (keys a) ++ [.string k])) (h2 : Vec w 2 v2 (n + 1) (rcells (vals a) ++ [.int .i64 v.1, .int .i64 v.2])) (n1 : Nw W.heap.size w.heap.size kv v1) (n2 : Nw W.heap.size w.heap.size vv v2) (hap : ∀ g, W.heap.size ≤ g → v1.ownBlock = some g → v2.ownBlock ≠ some g) :
    Gath ((w.setCell ⟨kb, 0, none⟩ v1).setCell ⟨vb, 0, none⟩ v2) mb kb vb most (a ++ [kr k v]) N ∧ Only (fun b => N ≤ b) W ((w.setCell ⟨kb, 0, none⟩ v1).setCell ⟨vb, 0, none⟩ v2) := by
  subst hn
  have hm := h.m.lt
  have hk := h.k.lt
  have hv := h.v.lt
  have hs := ho.size
  have hno : ∀ b, b < W.heap.size → b = mb ∨ b = kb ∨ b = vb → ¬ (kv.ownBlock = some b ∨ vv.ownBlock = some b) := fun b _ hb e => by
    rcases e with e | e
    · have := h.ok b e; omega
    · have := h.ov b e; omega
  have o1 : ∀ g, v1.ownBlock = some g → N ≤ g ∧ g < w.heap.size ∧ g ≠ mb ∧ g ≠ kb ∧ g ≠ vb := fun g hg => by
    have := h.nm
    rcases n1.cases hg with e | e
    · have := h.ok g e; omega
    · omega
  have o2 : ∀ g, v2.ownBlock = some g → N ≤ g ∧ g < w.heap.size ∧ g ≠ mb ∧ g ≠ kb ∧ g ≠ vb := fun g hg => by
    have := h.nm
    rcases n2.cases hg with e | e
    · have := h.ov g e; omega
    · omega
  have hz : ((w.setCell ⟨kb, 0, none⟩ v1).setCell ⟨vb, 0, none⟩ v2).heap.size = w.heap.size := by simp [World.setCell]
  have q1 : v1.ownBlock ≠ some kb := fun e => (o1 kb e).2.2.2.1 rfl
  have q2 : v1.ownBlock ≠ some vb := fun e => (o1 vb e).2.2.2.2 rfl
  have q3 : v2.ownBlock ≠ some kb := fun e => (o2 kb e).2.2.2.1 rfl
  have q4 : v2.ownBlock ≠ some vb := fun e => (o2 vb e).2.2.2.2 rfl
  refine ⟨⟨v1, v2, ((h.m.only ho (hno mb hm (.inl rfl))).setOther (p := ⟨kb, 0, none⟩) h.n1 _).setOther (p := ⟨vb, 0, none⟩) h.n2 _, ((h.k.only ho (hno kb hk (.inr (.inl rfl)))).setCell 0 v1).setOther (p := ⟨vb, 0, none⟩) h.n3 _,
    ((h.v.only ho (hno vb hv (.inr (.inr rfl)))).setOther (p := ⟨kb, 0, none⟩) (Ne.symm h.n3) _).setCell 0 v2, ?_, ?_, fun g hg => by rw [hz]; exact o1 g hg, fun g hg => by rw [hz]; exact o2 g hg, fun g e1 e2 => ?_, h.n1, h.n2, h.n3, h.nm⟩, ?_⟩
  · have e1 : (a ++ [kr k v]).length = a.length + 1 := by simp
    have e2 : kcells (keys (a ++ [kr k v])) = kcells (keys a) ++ [.string k] := by rw [keys_append]; unfold kcells; rw [List.map_append]; rfl
    rw [e1, e2]
    exact vec_set (vec_set h1 (p := ⟨kb, 0, none⟩) q1 _) (p := ⟨vb, 0, none⟩) q2 _
  · have e1 : (a ++ [kr k v]).length = a.length + 1 := by simp
    have e2 : rcells (vals (a ++ [kr k v])) = rcells (vals a) ++ [.int .i64 v.1, .int .i64 v.2] := by rw [vals_append, rcells_append]; rfl
    rw [e1, e2]
    exact vec_set (vec_set h2 (p := ⟨kb, 0, none⟩) q3 _) (p := ⟨vb, 0, none⟩) q4 _
  · rcases n1.cases e1 with h1' | h1'
    · rcases n2.cases e2 with h2' | h2'
      · exact h.ap g h1' h2'
      · have := h.ok g h1'; omega
    · exact hap g h1'.1 e1 e2
  · refine ((ho.mono fun b e => ?_).setCell (p := ⟨kb, 0, none⟩) (.inl h.nm.2.1) v1).setCell (p := ⟨vb, 0, none⟩) (.inl h.nm.2.2) v2
    rcases e with e | e
    · exact (h.ok b e).1
    · exact (h.ov b e).1

set_option maxHeartbeats 1000000 in
set_option maxRecDepth 100000 in
theorem each_any (w : World) (mb kb vb : Nat) (most : Int) (a : Nd 0) (N : Nat) (k : Key) (v : Rid) (h : Gath w mb kb vb most a N) (ha : a.length ≤ 100000) :
    Calls Try.prog 33 #[.string k, ridV v, ptr mb, ptr kb, ptr vb] w (EachPost w mb kb vb most a N k v) := by
  obtain ⟨kv, vv, h⟩ := h
  obtain ⟨vp, vq⟩ := v
  obtain ⟨n, hn⟩ : ∃ n, a.length = n := ⟨_, rfl⟩
  obtain ⟨ka, kc, rfl⟩ := h.kk.form'
  obtain ⟨va, vc, rfl⟩ := h.vk.form'
  have hg : ∀ ob, GathV (w.alloc ob) mb kb vb most a N _ _ := fun ob => h.only (S := fun _ => False) ((Only.refl _ w).alloc ob) fun _ e => e.elim
  have m0 : ∀ ob, (w.alloc ob).cell? ⟨mb, 0, none⟩ = some (.int .i64 most) := fun ob => (hg ob).m.cell 0
  have k0 : ∀ ob, (w.alloc ob).cell? ⟨kb, 0, none⟩ = some (.slice ka a.length kc) := fun ob => (hg ob).k.cell 0
  have v0 : ∀ ob, (w.alloc ob).cell? ⟨vb, 0, none⟩ = some (.slice va a.length vc) := fun ob => (hg ob).v.cell 0
  have d0 : ∀ tt, (w.alloc (.cells #[.int .i64 vp, .int .i64 vq] tt)).cell? ⟨w.heap.size, 0, none⟩ = some (.int .i64 vp) := fun tt => (cellsAt_new w [.int .i64 vp, .int .i64 vq] tt).cell 0
  have d1 : ∀ tt, (w.alloc (.cells #[.int .i64 vp, .int .i64 vq] tt)).cell? ⟨w.heap.size, 1, none⟩ = some (.int .i64 vq) := fun tt => (cellsAt_new w [.int .i64 vp, .int .i64 vq] tt).cell 1
  have HG := Lib.hid h
  have HA := Lib.hid (And.intro hn ha)
  rw [hn] at k0 v0
  have SW0 := Lib.hid (fun ob => show Still w (w.alloc ob) from (Only.refl _ w).alloc ob)
  clear h hg
  unfold ptr ridV
  have hwb : w.heap.size ≤ w.heap.size := Nat.le_refl _
  go_enter Try.func33, Try.ntmps33
  rcases Int.lt_or_le most 0 with hm | hm
  rotate_left
  rcases Int.lt_or_le (n : Int) most with hmn | hmn
  rotate_left
  · have FIN := Lib.hid (show ∀ w', Still w w' → EachPost w mb kb vb most a N k (vp, vq) (.returned (.bool false)) w' from fun w' hs => by
      have e : full most a = true := by simp [full, hn]; omega
      unfold EachPost
      rw [e]
      exact ⟨rfl, ⟨_, _, HG.out.only hs fun _ e => e.elim⟩, hs.only⟩)
    have t1 : decide (0 ≤ most) = true := by simp; omega
    have t2 : decide (most ≤ (n : Int)) = true := by simp; omega
    clear hm hmn hn ha d0 d1 hwb
    go_wp2_with fail
    go_ret
    exact FIN.out _ (SW0.out _)
  all_goals
    have hff : full most a = false := by simp [full, hn]; omega
    first
      | (have t1 : decide (0 ≤ most) = true := by simp; omega
         have t2 : decide (most ≤ (n : Int)) = false := by simp; omega)
      | (have t1 : decide (0 ≤ most) = false := by simp; omega
         have t2 : True := trivial)
    clear hm hn ha
    have HFF := Lib.hid hff
    clear hff
    go_wp2_with fail
    have s2 := d0 35
    have s3 := d1 35
    have s4 := k0 (.cells #[.int .i64 vp, .int .i64 vq] 35)
    have s5 := v0 (.cells #[.int .i64 vp, .int .i64 vq] 35)
    have HW := Lib.hid (SW0.out (.cells #[.int .i64 vp, .int .i64 vq] 35))
    clear d0 d1 m0 k0 v0 SW0
    generalize w.alloc _ = W at *
    generalize hbx : w.heap.size = bx at *
    have HBX := Lib.hid hbx
    clear hbx hwb
    have hgW : GathV W mb kb vb most a N (.slice ka a.length kc) (.slice va a.length vc) := HG.out.only HW.out fun _ e => e.elim
    rw [HA.out.1] at hgW
    have hbn : bx ≠ kb ∧ bx ≠ vb ∧ (∀ g, (Value.slice ka n kc).ownBlock = some g → g ≠ bx) ∧ (∀ g, (Value.slice va n vc).ownBlock = some g → g ≠ bx) := by
      have hgw := HG.out
      rw [HA.out.1] at hgw
      have h1 := hgw.k.lt
      have h2 := hgw.v.lt
      have h3 := HBX.out
      refine ⟨by omega, by omega, fun g hg => ?_, fun g hg => ?_⟩
      · have := (hgw.ok g hg).2.1; omega
      · have := (hgw.ov g hg).2.1; omega
    have hbs : bx < W.heap.size := World.block_lt_of_cell? _ _ s2
    have SS := Lib.hid (fun w' (hs : Only (fun b => (Value.slice ka n kc).ownBlock = some b ∨ (Value.slice va n vc).ownBlock = some b) W w') => show w'.cell? ⟨kb, 0, none⟩ = some (.slice ka n kc) ∧ w'.cell? ⟨vb, 0, none⟩ = some (.slice va n vc) ∧ w'.cell? ⟨bx, 0, none⟩ = some (.int .i64 vp) ∧ w'.cell? ⟨bx, 1, none⟩ = some (.int .i64 vq) ∧ w'.frozen? ⟨kb, 0, none⟩ = false ∧ w'.frozen? ⟨vb, 0, none⟩ = false from by
      have c1 : cellsAt w' kb _ := hgW.k.only hs fun e => by
        rcases e with e | e
        · exact (hgW.ok _ e).2.2.2.1 rfl
        · exact (hgW.ov _ e).2.2.2.1 rfl
      have c2 : cellsAt w' vb _ := hgW.v.only hs fun e => by
        rcases e with e | e
        · exact (hgW.ok _ e).2.2.2.2 rfl
        · exact (hgW.ov _ e).2.2.2.2 rfl
      have hx : ¬ ((Value.slice ka n kc).ownBlock = some bx ∨ (Value.slice va n vc).ownBlock = some bx) := fun e => by
        rcases e with e | e
        · exact hbn.2.2.1 _ e rfl
        · exact hbn.2.2.2 _ e rfl
      exact ⟨c1.cell 0, c2.cell 0, (hs.cell (p := ⟨bx, 0, none⟩) hbs hx).trans s2, (hs.cell (p := ⟨bx, 1, none⟩) hbs hx).trans s3, c1.free 0, c2.free 0⟩)
    have HGW := Lib.hid hgW
    obtain ⟨i0, hi0, hz0, hz1, hz2⟩ := info_parts info_s
    obtain ⟨i1, hi1, hy0, hy1, hy2⟩ := info_parts info_r
    have HI := Lib.hid (And.intro hi0 (And.intro hz0 (And.intro hz1 hz2)))
    have HJ := Lib.hid (And.intro hi1 (And.intro hy0 (And.intro hy1 hy2)))
    clear hi0 hz0 hz1 hz2 hi1 hy0 hy1 hy2 hgW hbn hbs
    refine wp_region_D_drew (D := (fun i => [1, 8, 9].contains i)) (S := (fun w' => w'.cell? ⟨kb, 0, none⟩ = some (.slice ka n kc) ∧ w'.cell? ⟨vb, 0, none⟩ = some (.slice va n vc) ∧ w'.cell? ⟨bx, 0, none⟩ = some (.int .i64 vp) ∧ w'.cell? ⟨bx, 1, none⟩ = some (.int .i64 vq) ∧ w'.frozen? ⟨kb, 0, none⟩ = false ∧ w'.frozen? ⟨vb, 0, none⟩ = false)) (by kernel_rfl) ?_ (fun hHeld => ?_)
    · exact SS.out _ (Only.refl _ _).drew
    (refine takeD (i := 1) (some 17) (v := ?_) rfl (by rfl) (by rfl) (by kernel_rfl) (by rfl) (fun _ _ _ h => h) ?_ ?_; rotate_left; (intro w; go_simp; try with_reducible rfl); try go_frame)
    (refine takeS (i := 0) (some 16) (v := ?_) rfl (by rfl) (by rfl) (by kernel_rfl) (by rfl) (fun _ _ _ h => h) (by assumption) ?_ ?_; rotate_left; (intro w hSw; (try dsimp only at hSw); go_simp; try with_reducible rfl); try go_frame)
    (refine takeS (i := 4) (some 20) (v := ?_) rfl (by rfl) (by rfl) (by kernel_rfl) (by rfl) (fun _ _ _ h => h) (by assumption) ?_ ?_; rotate_left; (intro w hSw; (try dsimp only at hSw); go_simp; try with_reducible rfl); try go_frame)
    (refine takeS (i := 5) (some 21) (v := ?_) rfl (by rfl) (by rfl) (by kernel_rfl) (by rfl) (fun _ _ _ h => h) (by assumption) ?_ ?_; rotate_left; (intro w hSw; (try dsimp only at hSw); go_simp; try with_reducible rfl); try go_frame)
    refine wpAnyD_merged (J := AppJ W (.slice ka n kc) (.slice va n vc) n (kcells (keys a)) (rcells (vals a)) (.string k) (.int .i64 vp) (.int .i64 vq)) [(2, 18), (3, 19), (6, 22), (7, 23)] (fun i => if i = 3 then [2] else if i = 7 then [6, 3] else []) #[true, true, true, true, true, true, true, true, false, false] rfl (by kernel_rfl) (by kernel_rfl) ?_ ?_ ?_ ?_
    · intro L xs w' hJ
      exact SS.out _ hJ.all
    · intro xs
      refine AppJ.start (Still.refl _).drew (HA.out.1 ▸ HGW.out.kk.drew) (HA.out.1 ▸ HGW.out.vk.drew) ?_
      intro j hj
      simp only [List.mem_cons, List.not_mem_nil, or_false] at hj
      rcases hj with rfl | rfl | rfl | rfl <;> kernel_rfl
    · intro p hp
      simp only [List.mem_cons, List.not_mem_nil, or_false] at hp
      rcases hp with rfl | rfl | rfl | rfl
      · refine StepM.of rfl (fun L xs w' hd hl hJ K hK => ?_)
        (unfold fillA; simp only [List.foldl]; try go_frame)
        go_simp
        refine hK.out _ _ (hJ.b1' _) _ (by kernel_rfl)
      · refine StepM.of rfl (fun L xs w' hd hl hJ K hK => ?_)
        obtain ⟨g, hg, hb, hgw⟩ := hJ.b1 (hd 2 (by simp))
        refine step_append_vec rfl _ _ 27 rfl 9 i0 _ 1 16 Try.underlying27 HI.out.1 HI.out.2.1 HI.out.2.2.1 HI.out.2.2.2 rfl (by decide) (.slice ka n kc) n _ ?_ (hJ.a0 hl) (.slice (some ⟨g, 0, none⟩) 1 1) 1 [.string k] ?_ (hb.reads rfl) (by intro u hu; simp at hu; rw [hu]; rfl) (by have := HA.out; simp only [maxLen]; omega) (by have := HA.out; omega) ?_
        · (unfold fillA; simp only [List.foldl]; try go_frame)
          simp [Act.eval]
        · (unfold fillA; simp only [List.foldl]; try go_frame)
          simp [Act.eval, hg]
        · intro v' w2 hv' ho' hb'
          exact hK.out _ _ (hJ.c1' hl (fun g hg => (HGW.out.ok g hg).2.1) HGW.out.ap hv' ho' hb') _ rfl
      · refine StepM.of rfl (fun L xs w' hd hl hJ K hK => ?_)
        (unfold fillA; simp only [List.foldl]; try go_frame)
        go_simp
        refine hK.out _ _ (hJ.b2' _) _ (by kernel_rfl)
      · refine StepM.of rfl (fun L xs w' hd hl hJ K hK => ?_)
        obtain ⟨g, hg, hb, hgw⟩ := hJ.b2 (hd 6 (by simp))
        refine step_append_vec rfl _ _ 28 rfl 35 i1 _ 2 16 Try.underlying28 HJ.out.1 HJ.out.2.1 HJ.out.2.2.1 HJ.out.2.2.2 rfl (by decide) (.slice va n vc) n _ ?_ (hJ.c0 hl) (.slice (some ⟨g, 0, none⟩) 1 1) 1 [.int .i64 vp, .int .i64 vq] ?_ (hb.reads rfl) (by intro u hu; simp at hu; rcases hu with hu | hu <;> (rw [hu]; rfl)) (by have := HA.out; simp only [maxLen]; omega) (by have := HA.out; omega) ?_
        · (unfold fillA; simp only [List.foldl]; try go_frame)
          simp [Act.eval]
        · (unfold fillA; simp only [List.foldl]; try go_frame)
          simp [Act.eval, hg]
        · intro v' w2 hv' ho' hb'
          exact hK.out _ _ (hJ.c2' (hd 3 (by simp)) (fun g hg => (HGW.out.ok g hg).2.1) (fun g hg => (HGW.out.ov g hg).2.1) HGW.out.ap hv' ho' hb') _ rfl
    · intro xs w' hJ
      (unfold fillA; simp only [List.foldl]; try go_frame)
      obtain ⟨_, q2, q3, q4⟩ := hJ.c1 (by kernel_rfl)
      obtain ⟨r2, r3⟩ := hJ.a1 (by kernel_rfl)
      obtain ⟨z1, z2, z3, z4, z5, z6⟩ := SS.out _ hJ.all
      have hlv : vb < w'.heap.size := World.block_lt_of_cell? _ _ z2
      have y1 : ∀ u, (w'.setCell ⟨kb, 0, none⟩ u).cell? ⟨vb, 0, none⟩ = some (.slice va n vc) := fun u => ((setCell_only w' ⟨kb, 0, none⟩ u).cell (p := ⟨vb, 0, none⟩) hlv (Ne.symm HGW.out.n3)).trans z2
      have y2 : ∀ u, (w'.setCell ⟨kb, 0, none⟩ u).frozen? ⟨vb, 0, none⟩ = false := fun u => ((setCell_only w' ⟨kb, 0, none⟩ u).frozen (p := ⟨vb, 0, none⟩) hlv (Ne.symm HGW.out.n3)).trans z6
      have hend := gath_end (k := k) (v := (vp, vq)) HGW.out hJ.all HA.out.1.symm r2 q2 r3 q3 q4
      obtain ⟨p1, d1, e1⟩ := r2.form'
      obtain ⟨p2, d2, e2⟩ := q2.form'
      rw [e1, e2] at hend ⊢
      have F := Lib.hid (show EachPost w mb kb vb most a N k (vp, vq) (.returned (.bool true)) _ from by
        unfold EachPost
        rw [HFF.out]
        exact ⟨rfl, hend.1, HW.out.only.trans hend.2⟩)
      clear hJ q2 q3 q4 r2 r3 hend e1 e2 hlv
      refine wpAnyD_ready (rs := [8]) (by kernel_rfl) (by simp) ?_
      refine ReadyD.last rfl (by rfl) (fun K hK => ?_) ?_
      go_simp
      refine hK.out _ _ ?_
      (clear hK K; try go_frame)
      refine wpAnyD_ready (rs := [9]) (by kernel_rfl) (by simp) ?_
      refine ReadyD.last rfl (by rfl) (fun K hK => ?_) ?_
      go_simp
      refine hK.out _ _ ?_
      (clear hK K; try go_frame)
      refine wpAnyD_done (by kernel_rfl) ?_ _
      rotate_left
      exact ReadyD.nil
      exact ReadyD.nil
      go_wp2_with fail
      go_ret
      exact F.out
end Go.Proofs.Ytjmkfppnimengaa
