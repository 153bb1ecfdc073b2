/- What gathers keys and places, one by one, up to so many. Conditions: where it gathers lies in memory. The second instance: a place and a second key. All keys from one on, one by one: the walk down a tree. Conditions: a tree in memory; where it is gathered lies apart. The second instance: a place and a second key. All keys from one on, one by one, at every level. Conditions: a tree in memory; where it is gathered lies apart. The second instance: a place and a second key. From of a tree as it is held. Conditions: a tree in memory. -/
import Derived.Test.YtedfijmaeoednaaGreatDoorBx21
import Derived.Laws.ResultCell
import Derived.Deep.DeepCutAuto
namespace Go.Proofs.YtedfijmaeoednaaGreatDoor.Ke
open Go.RowKit Go.Wh

/-- No more is wanted. -/
def full (most : Int) (a : Nd 0) : Bool := decide (0 ≤ most) && decide (most ≤ (a.length : Int))
def gather (most : Int) : Nd 0 → Nd 0 → Nd 0 × Bool
  | a, [] => (a, true)
  | a, e :: l => if full most a then (a, false) else gather most (a ++ [e]) l

theorem gather_append (most : Int) : ∀ (l m a : Nd 0), gather most a (l ++ m) = if (gather most a l).2 then gather most (gather most a l).1 m else gather most a l
  | [], m, a => rfl
  | e :: l, m, a => by
    rw [List.cons_append]
    have e1 : ∀ b : Nd 0, gather most a (e :: b) = if full most a then (a, false) else gather most (a ++ [e]) b := fun _ => rfl
    rw [e1, e1]
    cases hf : full most a with
    | true => simp
    | false =>
      simp only [Bool.false_eq_true, if_false]
      exact gather_append most l m _

/-- Where it is gathered. -/
structure GathV (w : World) (mb kb vb : Nat) (most : Int) (a : Nd 0) (N : Nat) (kv vv : Value) : Prop where
  m : cellsAt w mb [.int .i64 most]
  k : cellsAt w kb [kv]
  v : cellsAt w vb [vv]
  kk : Vec w 1 kv a.length (kcells (keys a))
  vk : Vec w 3 vv a.length (rcells (vals a))
  ok : ∀ g, kv.ownBlock = some g → N ≤ g ∧ g < w.heap.size ∧ g ≠ mb ∧ g ≠ kb ∧ g ≠ vb
  ov : ∀ g, vv.ownBlock = some g → N ≤ g ∧ g < w.heap.size ∧ g ≠ mb ∧ g ≠ kb ∧ g ≠ vb
  ap : ∀ g, kv.ownBlock = some g → vv.ownBlock ≠ some g
  n1 : mb ≠ kb
  n2 : mb ≠ vb
  n3 : kb ≠ vb
  nm : N ≤ mb ∧ N ≤ kb ∧ N ≤ vb
def Gath (w : World) (mb kb vb : Nat) (most : Int) (a : Nd 0) (N : Nat) : Prop := ∃ kv vv, GathV w mb kb vb most a N kv vv

theorem GathV.only {w w' : World} {mb kb vb N : Nat} {most : Int} {a : Nd 0} {kv vv : Value} {S : Nat → Prop} (h : GathV w mb kb vb most a N kv vv) (ho : Only S w w') (hs : ∀ b, S b → b < N) : GathV w' mb kb vb most a N kv vv :=
  ⟨h.m.only ho fun e => by have := hs _ e; have := h.nm; omega, h.k.only ho fun e => by have := hs _ e; have := h.nm; omega, h.v.only ho fun e => by have := hs _ e; have := h.nm; omega,
    h.kk.only ho fun g hg e => by have := hs _ e; have := h.ok g hg; omega, h.vk.only ho fun g hg e => by have := hs _ e; have := h.ov g hg; omega,
    fun g hg => by have := h.ok g hg; have := ho.size; omega, fun g hg => by have := h.ov g hg; have := ho.size; omega, h.ap, h.n1, h.n2, h.n3, h.nm⟩
theorem Gath.only {w w' : World} {mb kb vb N : Nat} {most : Int} {a : Nd 0} {S : Nat → Prop} (h : Gath w mb kb vb most a N) (ho : Only S w w') (hs : ∀ b, S b → b < N) : Gath w' mb kb vb most a N := by
  obtain ⟨kv, vv, h⟩ := h
  exact ⟨kv, vv, h.only ho hs⟩

/-- Two appends, each behind its built row, in whatever order. -/
structure AppJ (W : World) (kv vv : Value) (n : Nat) (kc vc : List Value) (yk : Value) (y1 y2 y3 : Value) (L : Nat → Bool) (xs : Nat → Value) (w : World) : Prop where
  all : Only (fun b => kv.ownBlock = some b ∨ vv.ownBlock = some b) W w
  b1 : L 2 = true → ∃ g, xs 2 = .slice (some ⟨g, 0, none⟩) 1 1 ∧ cellsAt w g [yk] ∧ W.heap.size ≤ g
  b2 : L 6 = true → ∃ g, xs 6 = .slice (some ⟨g, 0, none⟩) 1 1 ∧ cellsAt w g [y1, y2, y3] ∧ W.heap.size ≤ g
  a0 : L 3 = false → Vec w 1 kv n kc
  a1 : L 3 = true → Vec w 1 (xs 3) (n + 1) (kc ++ [yk]) ∧ Nw W.heap.size w.heap.size kv (xs 3)
  c0 : L 7 = false → Vec w 3 vv n vc
  c1 : L 7 = true → L 3 = true ∧ Vec w 3 (xs 7) (n + 1) (vc ++ [y1, y2, y3]) ∧ Nw W.heap.size w.heap.size vv (xs 7) ∧ ∀ g, W.heap.size ≤ g → (xs 3).ownBlock = some g → (xs 7).ownBlock ≠ some g

section
variable {W w w' : World} {kv vv : Value} {n : Nat} {kc vc : List Value} {yk y1 y2 y3 : Value} {L : Nat → Bool} {xs : Nat → Value}

theorem AppJ.start (hs : Still W w) (hk : Vec w 1 kv n kc) (hv : Vec w 3 vv n vc) (hl : ∀ j ∈ [2, 3, 6, 7], L j = false) : AppJ W kv vv n kc vc yk y1 y2 y3 L xs w := by
  refine ⟨hs.only, fun e => ?_, fun e => ?_, fun _ => hk, fun e => ?_, fun _ => hv, fun e => ?_⟩
  · rw [hl 2 (by simp)] at e; cases e
  · rw [hl 6 (by simp)] at e; cases e
  · rw [hl 3 (by simp)] at e; cases e
  · rw [hl 7 (by simp)] at e; cases e
theorem AppJ.alloc (h : AppJ W kv vv n kc vc yk y1 y2 y3 L xs w) (o : Obj) : AppJ W kv vv n kc vc yk y1 y2 y3 L xs (w.alloc o) := by
  obtain ⟨all, b1, b2, a0, a1, c0, c1⟩ := h
  have hz : w.heap.size ≤ (w.alloc o).heap.size := by simp
  refine ⟨all.alloc _, fun e => ?_, fun e => ?_, fun e => (a0 e).alloc _, fun e => ⟨(a1 e).1.alloc _, (a1 e).2.more hz⟩, fun e => (c0 e).alloc _, fun e => ⟨(c1 e).1, (c1 e).2.1.alloc _, (c1 e).2.2.1.more hz, (c1 e).2.2.2⟩⟩
  · obtain ⟨g, h1, h2, h3⟩ := b1 e
    exact ⟨g, h1, h2.alloc _, h3⟩
  · obtain ⟨g, h1, h2, h3⟩ := b2 e
    exact ⟨g, h1, h2.alloc _, h3⟩
theorem AppJ.b1' (h : AppJ W kv vv n kc vc yk y1 y2 y3 L xs w) (t : TypeId) : AppJ W kv vv n kc vc yk y1 y2 y3 (upN L 2 true) (upN xs 2 (.slice (some ⟨w.heap.size, 0, none⟩) 1 1)) (w.alloc (.cells #[yk] t)) := by
  have hs := h.all.size
  obtain ⟨all, b1, b2, a0, a1, c0, c1⟩ := h.alloc (.cells #[yk] t)
  exact ⟨all, fun _ => ⟨_, rfl, cellsAt_new w [yk] t, hs⟩, b2, a0, a1, c0, c1⟩
theorem AppJ.b2' (h : AppJ W kv vv n kc vc yk y1 y2 y3 L xs w) (t : TypeId) : AppJ W kv vv n kc vc yk y1 y2 y3 (upN L 6 true) (upN xs 6 (.slice (some ⟨w.heap.size, 0, none⟩) 1 1)) (w.alloc (.cells #[y1, y2, y3] t)) := by
  have hs := h.all.size
  obtain ⟨all, b1, b2, a0, a1, c0, c1⟩ := h.alloc (.cells #[y1, y2, y3] t)
  exact ⟨all, b1, fun _ => ⟨_, rfl, cellsAt_new w [y1, y2, y3] t, hs⟩, a0, a1, c0, c1⟩
theorem AppJ.c1' (h : AppJ W kv vv n kc vc yk y1 y2 y3 L xs w) (h0 : L 3 = false) (hkW : ∀ g, kv.ownBlock = some g → g < W.heap.size) (hap : ∀ g, kv.ownBlock = some g → vv.ownBlock ≠ some g) {v' : Value} (hv : Vec w' 1 v' (n + 1) (kc ++ [yk])) (ho : Only (fun b => kv.ownBlock = some b) w w')
    (hn : v'.ownBlock = kv.ownBlock ∨ ∃ g, v'.ownBlock = some g ∧ w.heap.size ≤ g ∧ g < w'.heap.size) : AppJ W kv vv n kc vc yk y1 y2 y3 (upN L 3 true) (upN xs 3 v') w' := by
  obtain ⟨all, b1, b2, a0, a1, c0, c1⟩ := h
  refine ⟨all.trans (ho.mono fun _ e => .inl e), fun e => ?_, fun e => ?_, fun e => (by cases e), fun _ => ⟨hv, hn.imp id fun ⟨g, h1, h2, h3⟩ => ⟨g, h1, Nat.le_trans all.size h2, h3⟩⟩, fun e => ?_, fun e => ?_⟩
  · obtain ⟨g, h1, h2, h3⟩ := b1 e
    exact ⟨g, h1, h2.only ho fun e => by have := hkW g e; omega, h3⟩
  · obtain ⟨g, h1, h2, h3⟩ := b2 e
    exact ⟨g, h1, h2.only ho fun e => by have := hkW g e; omega, h3⟩
  · exact (c0 e).only ho fun g hg e' => hap g e' hg
  · have := (c1 e).1
    rw [h0] at this
    cases this
theorem AppJ.c2' (h : AppJ W kv vv n kc vc yk y1 y2 y3 L xs w) (h1 : L 3 = true) (hkW : ∀ g, kv.ownBlock = some g → g < W.heap.size) (hvW : ∀ g, vv.ownBlock = some g → g < W.heap.size) (hap : ∀ g, kv.ownBlock = some g → vv.ownBlock ≠ some g) {v' : Value} (hv : Vec w' 3 v' (n + 1) (vc ++ [y1, y2, y3])) (ho : Only (fun b => vv.ownBlock = some b) w w')
    (hn : v'.ownBlock = vv.ownBlock ∨ ∃ g, v'.ownBlock = some g ∧ w.heap.size ≤ g ∧ g < w'.heap.size) : AppJ W kv vv n kc vc yk y1 y2 y3 (upN L 7 true) (upN xs 7 v') w' := by
  obtain ⟨all, b1, b2, a0, a1, c0, c1⟩ := h
  have hx3 : ∀ g, (xs 3).ownBlock = some g → vv.ownBlock ≠ some g := fun g hg e => by
    rcases (a1 h1).2.cases hg with h | h
    · exact hap g h e
    · have := hvW g e; omega
  refine ⟨all.trans (ho.mono fun _ e => .inr e), fun e => ?_, fun e => ?_, fun e => ?_, fun _ => ⟨(a1 h1).1.only ho fun g hg e => hx3 g hg e, (a1 h1).2.more ho.size⟩, fun e => (by cases e), fun _ => ⟨h1, hv, hn.imp id fun ⟨g, h1, h2, h3⟩ => ⟨g, h1, Nat.le_trans all.size h2, h3⟩, fun g hg e1 e2 => ?_⟩⟩
  · obtain ⟨g, h1, h2, h3⟩ := b1 e
    exact ⟨g, h1, h2.only ho fun e => by have := hvW g e; omega, h3⟩
  · obtain ⟨g, h1, h2, h3⟩ := b2 e
    exact ⟨g, h1, h2.only ho fun e => by have := hvW g e; omega, h3⟩
  · have e' : L 3 = false := e
    rw [h1] at e'
    cases e'
  · have e1' : (xs 3).ownBlock = some g := e1
    have e2' : v'.ownBlock = some g := e2
    rcases hn with h | ⟨g', h2, h3, h4⟩
    · rw [h] at e2'
      have := hvW g e2'
      omega
    · rw [h2] at e2'
      injection e2' with e2'
      rcases (a1 h1).2.cases e1' with h | h
      · have := hkW g h; omega
      · omega
end

/-- What a step leaves: told whether it is full. -/
def EachPost (w : World) (mb kb vb : Nat) (most : Int) (a : Nd 0) (N : Nat) (k : Key) (v : Rid) (e : Ending) (w' : World) : Prop :=
  e = .returned (.bool !(full most a)) ∧ Gath w' mb kb vb most (if full most a then a else a ++ [kr k v]) N ∧ Only (fun b => N ≤ b) w w'

/-- The two stores. -/
theorem gath_end {W w : World} {mb kb vb N n : Nat} {most : Int} {a : Nd 0} {kv vv v1 v2 : Value} {k : Key} {v : Rid} (h : GathV W mb kb vb most a N kv vv) (ho : Only (fun b => kv.ownBlock = some b ∨ vv.ownBlock = some b) W w) (hn : n = a.length)
    (h1 : Vec w 1 v1 (n + 1) (kcells (keys a) ++ [.string k])) (h2 : Vec w 3 v2 (n + 1) (rcells (vals a) ++ [.int .i64 v.1, .int .i64 v.2.1, .string v.2.2])) (n1 : Nw W.heap.size w.heap.size kv v1) (n2 : Nw W.heap.size w.heap.size vv v2) (hap : ∀ g, W.heap.size ≤ g → v1.ownBlock = some g → v2.ownBlock ≠ some g) :
    Gath ((w.setCell ⟨kb, 0, none⟩ v1).setCell ⟨vb, 0, none⟩ v2) mb kb vb most (a ++ [kr k v]) N ∧ Only (fun b => N ≤ b) W ((w.setCell ⟨kb, 0, none⟩ v1).setCell ⟨vb, 0, none⟩ v2) := by
  subst hn
  have hm := h.m.lt
  have hk := h.k.lt
  have hv := h.v.lt
  have hs := ho.size
  have hno : ∀ b, b < W.heap.size → b = mb ∨ b = kb ∨ b = vb → ¬ (kv.ownBlock = some b ∨ vv.ownBlock = some b) := fun b _ hb e => by
    rcases e with e | e
    · have := h.ok b e; omega
    · have := h.ov b e; omega
  have o1 : ∀ g, v1.ownBlock = some g → N ≤ g ∧ g < w.heap.size ∧ g ≠ mb ∧ g ≠ kb ∧ g ≠ vb := fun g hg => by
    have := h.nm
    rcases n1.cases hg with e | e
    · have := h.ok g e; omega
    · omega
  have o2 : ∀ g, v2.ownBlock = some g → N ≤ g ∧ g < w.heap.size ∧ g ≠ mb ∧ g ≠ kb ∧ g ≠ vb := fun g hg => by
    have := h.nm
    rcases n2.cases hg with e | e
    · have := h.ov g e; omega
    · omega
  have hz : ((w.setCell ⟨kb, 0, none⟩ v1).setCell ⟨vb, 0, none⟩ v2).heap.size = w.heap.size := by simp [World.setCell]
  have q1 : v1.ownBlock ≠ some kb := fun e => (o1 kb e).2.2.2.1 rfl
  have q2 : v1.ownBlock ≠ some vb := fun e => (o1 vb e).2.2.2.2 rfl
  have q3 : v2.ownBlock ≠ some kb := fun e => (o2 kb e).2.2.2.1 rfl
  have q4 : v2.ownBlock ≠ some vb := fun e => (o2 vb e).2.2.2.2 rfl
  refine ⟨⟨v1, v2, ((h.m.only ho (hno mb hm (.inl rfl))).setOther (p := ⟨kb, 0, none⟩) h.n1 _).setOther (p := ⟨vb, 0, none⟩) h.n2 _, ((h.k.only ho (hno kb hk (.inr (.inl rfl)))).setCell 0 v1).setOther (p := ⟨vb, 0, none⟩) h.n3 _,
    ((h.v.only ho (hno vb hv (.inr (.inr rfl)))).setOther (p := ⟨kb, 0, none⟩) (Ne.symm h.n3) _).setCell 0 v2, ?_, ?_, fun g hg => by rw [hz]; exact o1 g hg, fun g hg => by rw [hz]; exact o2 g hg, fun g e1 e2 => ?_, h.n1, h.n2, h.n3, h.nm⟩, ?_⟩
  · have e1 : (a ++ [kr k v]).length = a.length + 1 := by simp
    have e2 : kcells (keys (a ++ [kr k v])) = kcells (keys a) ++ [.string k] := by rw [keys_append]; unfold kcells; rw [List.map_append]; rfl
    rw [e1, e2]
    exact vec_set (vec_set h1 (p := ⟨kb, 0, none⟩) q1 _) (p := ⟨vb, 0, none⟩) q2 _
  · have e1 : (a ++ [kr k v]).length = a.length + 1 := by simp
    have e2 : rcells (vals (a ++ [kr k v])) = rcells (vals a) ++ [.int .i64 v.1, .int .i64 v.2.1, .string v.2.2] := by rw [vals_append, rcells_append]; rfl
    rw [e1, e2]
    exact vec_set (vec_set h2 (p := ⟨kb, 0, none⟩) q3 _) (p := ⟨vb, 0, none⟩) q4 _
  · rcases n1.cases e1 with h1' | h1'
    · rcases n2.cases e2 with h2' | h2'
      · exact h.ap g h1' h2'
      · have := h.ok g h1'; omega
    · exact hap g h1'.1 e1 e2
  · refine ((ho.mono fun b e => ?_).setCell (p := ⟨kb, 0, none⟩) (.inl h.nm.2.1) v1).setCell (p := ⟨vb, 0, none⟩) (.inl h.nm.2.2) v2
    rcases e with e | e
    · exact (h.ok b e).1
    · exact (h.ov b e).1

set_option maxHeartbeats 1000000 in
set_option maxRecDepth 100000 in
theorem each_any (w : World) (mb kb vb : Nat) (most : Int) (a : Nd 0) (N : Nat) (k : Key) (v : Rid) (h : Gath w mb kb vb most a N) (ha : a.length ≤ 100000) :
    Calls Tryz.prog 59 #[.string k, ridV v, ptr mb, ptr kb, ptr vb] w (EachPost w mb kb vb most a N k v) := by
  obtain ⟨kv, vv, h⟩ := h
  obtain ⟨vp, vq, vz⟩ := v
  obtain ⟨n, hn⟩ : ∃ n, a.length = n := ⟨_, rfl⟩
  obtain ⟨ka, kc, rfl⟩ := h.kk.form'
  obtain ⟨va, vc, rfl⟩ := h.vk.form'
  have hg : ∀ ob, GathV (w.alloc ob) mb kb vb most a N _ _ := fun ob => h.only (S := fun _ => False) ((Only.refl _ w).alloc ob) fun _ e => e.elim
  have m0 : ∀ ob, (w.alloc ob).cell? ⟨mb, 0, none⟩ = some (.int .i64 most) := fun ob => (hg ob).m.cell 0
  have k0 : ∀ ob, (w.alloc ob).cell? ⟨kb, 0, none⟩ = some (.slice ka a.length kc) := fun ob => (hg ob).k.cell 0
  have v0 : ∀ ob, (w.alloc ob).cell? ⟨vb, 0, none⟩ = some (.slice va a.length vc) := fun ob => (hg ob).v.cell 0
  have d0 : ∀ tt, (w.alloc (.cells #[.int .i64 vp, .int .i64 vq, .string vz] tt)).cell? ⟨w.heap.size, 0, none⟩ = some (.int .i64 vp) := fun tt => (cellsAt_new w [.int .i64 vp, .int .i64 vq, .string vz] tt).cell 0
  have d1 : ∀ tt, (w.alloc (.cells #[.int .i64 vp, .int .i64 vq, .string vz] tt)).cell? ⟨w.heap.size, 1, none⟩ = some (.int .i64 vq) := fun tt => (cellsAt_new w [.int .i64 vp, .int .i64 vq, .string vz] tt).cell 1
  have d2 : ∀ tt, (w.alloc (.cells #[.int .i64 vp, .int .i64 vq, .string vz] tt)).cell? ⟨w.heap.size, 2, none⟩ = some (.string vz) := fun tt => (cellsAt_new w [.int .i64 vp, .int .i64 vq, .string vz] tt).cell 2
  have HG := Lib.hid h
  have HA := Lib.hid (And.intro hn ha)
  rw [hn] at k0 v0
  have SW0 := Lib.hid (fun ob => show Still w (w.alloc ob) from (Only.refl _ w).alloc ob)
  clear h hg
  unfold ptr ridV
  have hwb : w.heap.size ≤ w.heap.size := Nat.le_refl _
  go_enter Tryz.func59, Tryz.ntmps59
  rcases Int.lt_or_le most 0 with hm | hm
  rotate_left
  rcases Int.lt_or_le (n : Int) most with hmn | hmn
  rotate_left
  · have FIN := Lib.hid (show ∀ w', Still w w' → EachPost w mb kb vb most a N k (vp, vq, vz) (.returned (.bool false)) w' from fun w' hs => by
      have e : full most a = true := by simp [full, hn]; omega
      unfold EachPost
      rw [e]
      exact ⟨rfl, ⟨_, _, HG.out.only hs fun _ e => e.elim⟩, hs.only⟩)
    have t1 : decide (0 ≤ most) = true := by simp; omega
    have t2 : decide (most ≤ (n : Int)) = true := by simp; omega
    clear hm hmn hn ha d0 d1 d2 hwb
    go_wp2_with fail
    go_ret
    exact FIN.out _ (SW0.out _)
  all_goals
    have hff : full most a = false := by simp [full, hn]; omega
    first
      | (have t1 : decide (0 ≤ most) = true := by simp; omega
         have t2 : decide (most ≤ (n : Int)) = false := by simp; omega)
      | (have t1 : decide (0 ≤ most) = false := by simp; omega
         have t2 : True := trivial)
    clear hm hn ha
    have HFF := Lib.hid hff
    clear hff
    go_wp2_with fail
    have s2 := d0 58
    have s3 := d1 58
    have s3z := d2 58
    have s4 := k0 (.cells #[.int .i64 vp, .int .i64 vq, .string vz] 58)
    have s5 := v0 (.cells #[.int .i64 vp, .int .i64 vq, .string vz] 58)
    have HW := Lib.hid (SW0.out (.cells #[.int .i64 vp, .int .i64 vq, .string vz] 58))
    clear d0 d1 d2 m0 k0 v0 SW0
    generalize w.alloc _ = W at *
    generalize hbx : w.heap.size = bx at *
    have HBX := Lib.hid hbx
    clear hbx hwb
    have hgW : GathV W mb kb vb most a N (.slice ka a.length kc) (.slice va a.length vc) := HG.out.only HW.out fun _ e => e.elim
    rw [HA.out.1] at hgW
    have hbn : bx ≠ kb ∧ bx ≠ vb ∧ (∀ g, (Value.slice ka n kc).ownBlock = some g → g ≠ bx) ∧ (∀ g, (Value.slice va n vc).ownBlock = some g → g ≠ bx) := by
      have hgw := HG.out
      rw [HA.out.1] at hgw
      have h1 := hgw.k.lt
      have h2 := hgw.v.lt
      have h3 := HBX.out
      refine ⟨by omega, by omega, fun g hg => ?_, fun g hg => ?_⟩
      · have := (hgw.ok g hg).2.1; omega
      · have := (hgw.ov g hg).2.1; omega
    have hbs : bx < W.heap.size := World.block_lt_of_cell? _ _ s2
    have SS := Lib.hid (fun w' (hs : Only (fun b => (Value.slice ka n kc).ownBlock = some b ∨ (Value.slice va n vc).ownBlock = some b) W w') => show w'.cell? ⟨kb, 0, none⟩ = some (.slice ka n kc) ∧ w'.cell? ⟨vb, 0, none⟩ = some (.slice va n vc) ∧ w'.cell? ⟨bx, 0, none⟩ = some (.int .i64 vp) ∧ w'.cell? ⟨bx, 1, none⟩ = some (.int .i64 vq) ∧ w'.cell? ⟨bx, 2, none⟩ = some (.string vz) ∧ w'.frozen? ⟨kb, 0, none⟩ = false ∧ w'.frozen? ⟨vb, 0, none⟩ = false from by
      have c1 : cellsAt w' kb _ := hgW.k.only hs fun e => by
        rcases e with e | e
        · exact (hgW.ok _ e).2.2.2.1 rfl
        · exact (hgW.ov _ e).2.2.2.1 rfl
      have c2 : cellsAt w' vb _ := hgW.v.only hs fun e => by
        rcases e with e | e
        · exact (hgW.ok _ e).2.2.2.2 rfl
        · exact (hgW.ov _ e).2.2.2.2 rfl
      have hx : ¬ ((Value.slice ka n kc).ownBlock = some bx ∨ (Value.slice va n vc).ownBlock = some bx) := fun e => by
        rcases e with e | e
        · exact hbn.2.2.1 _ e rfl
        · exact hbn.2.2.2 _ e rfl
      exact ⟨c1.cell 0, c2.cell 0, (hs.cell (p := ⟨bx, 0, none⟩) hbs hx).trans s2, (hs.cell (p := ⟨bx, 1, none⟩) hbs hx).trans s3, (hs.cell (p := ⟨bx, 2, none⟩) hbs hx).trans s3z, c1.free 0, c2.free 0⟩)
    have HGW := Lib.hid hgW
    obtain ⟨i0, hi0, hz0, hz1, hz2⟩ := info_parts info_s
    obtain ⟨i1, hi1, hy0, hy1, hy2⟩ := info_parts info_k
    have HI := Lib.hid (And.intro hi0 (And.intro hz0 (And.intro hz1 hz2)))
    have HJ := Lib.hid (And.intro hi1 (And.intro hy0 (And.intro hy1 hy2)))
    clear hi0 hz0 hz1 hz2 hi1 hy0 hy1 hy2 hgW hbn hbs
    refine wp_region_D_drew (D := (fun i => [1, 8, 9].contains i)) (S := (fun w' => w'.cell? ⟨kb, 0, none⟩ = some (.slice ka n kc) ∧ w'.cell? ⟨vb, 0, none⟩ = some (.slice va n vc) ∧ w'.cell? ⟨bx, 0, none⟩ = some (.int .i64 vp) ∧ w'.cell? ⟨bx, 1, none⟩ = some (.int .i64 vq) ∧ w'.cell? ⟨bx, 2, none⟩ = some (.string vz) ∧ w'.frozen? ⟨kb, 0, none⟩ = false ∧ w'.frozen? ⟨vb, 0, none⟩ = false)) (by kernel_rfl) ?_ (fun hHeld => ?_)
    · exact SS.out _ (Only.refl _ _).drew
    (refine takeD (i := 1) (some 17) (v := ?_) rfl (by rfl) (by rfl) (by kernel_rfl) (by rfl) (fun _ _ _ h => h) ?_ ?_; rotate_left; (intro w; go_simp; try with_reducible rfl); try go_frame)
    (refine takeS (i := 0) (some 16) (v := ?_) rfl (by rfl) (by rfl) (by kernel_rfl) (by rfl) (fun _ _ _ h => h) (by assumption) ?_ ?_; rotate_left; (intro w hSw; (try dsimp only at hSw); go_simp; try with_reducible rfl); try go_frame)
    (refine takeS (i := 4) (some 20) (v := ?_) rfl (by rfl) (by rfl) (by kernel_rfl) (by rfl) (fun _ _ _ h => h) (by assumption) ?_ ?_; rotate_left; (intro w hSw; (try dsimp only at hSw); go_simp; try with_reducible rfl); try go_frame)
    (refine takeS (i := 5) (some 21) (v := ?_) rfl (by rfl) (by rfl) (by kernel_rfl) (by rfl) (fun _ _ _ h => h) (by assumption) ?_ ?_; rotate_left; (intro w hSw; (try dsimp only at hSw); go_simp; try with_reducible rfl); try go_frame)
    refine wpAnyD_merged (J := AppJ W (.slice ka n kc) (.slice va n vc) n (kcells (keys a)) (rcells (vals a)) (.string k) (.int .i64 vp) (.int .i64 vq) (.string vz)) [(2, 18), (3, 19), (6, 22), (7, 23)] (fun i => if i = 3 then [2] else if i = 7 then [6, 3] else []) #[true, true, true, true, true, true, true, true, false, false] rfl (by kernel_rfl) (by kernel_rfl) ?_ ?_ ?_ ?_
    · intro L xs w' hJ
      exact SS.out _ hJ.all
    · intro xs
      refine AppJ.start (Still.refl _).drew (HA.out.1 ▸ HGW.out.kk.drew) (HA.out.1 ▸ HGW.out.vk.drew) ?_
      intro j hj
      simp only [List.mem_cons, List.not_mem_nil, or_false] at hj
      rcases hj with rfl | rfl | rfl | rfl <;> kernel_rfl
    · intro p hp
      simp only [List.mem_cons, List.not_mem_nil, or_false] at hp
      rcases hp with rfl | rfl | rfl | rfl
      · refine StepM.of rfl (fun L xs w' hd hl hJ K hK => ?_)
        (unfold fillA; simp only [List.foldl]; try go_frame)
        go_simp
        refine hK.out _ _ (hJ.b1' _) _ (by kernel_rfl)
      · refine StepM.of rfl (fun L xs w' hd hl hJ K hK => ?_)
        obtain ⟨g, hg, hb, hgw⟩ := hJ.b1 (hd 2 (by simp))
        refine step_append_vec rfl _ _ 42 rfl 9 i0 _ 1 16 Tryz.underlying42 HI.out.1 HI.out.2.1 HI.out.2.2.1 HI.out.2.2.2 rfl (by decide) (.slice ka n kc) n _ ?_ (hJ.a0 hl) (.slice (some ⟨g, 0, none⟩) 1 1) 1 [.string k] ?_ (hb.reads rfl) (by intro u hu; simp at hu; rw [hu]; rfl) (by have := HA.out; simp only [maxLen]; omega) (by have := HA.out; omega) ?_
        · (unfold fillA; simp only [List.foldl]; try go_frame)
          simp [Act.eval]
        · (unfold fillA; simp only [List.foldl]; try go_frame)
          simp [Act.eval, hg]
        · intro v' w2 hv' ho' hb'
          exact hK.out _ _ (hJ.c1' hl (fun g hg => (HGW.out.ok g hg).2.1) HGW.out.ap hv' ho' hb') _ rfl
      · refine StepM.of rfl (fun L xs w' hd hl hJ K hK => ?_)
        (unfold fillA; simp only [List.foldl]; try go_frame)
        go_simp
        refine hK.out _ _ (hJ.b2' _) _ (by kernel_rfl)
      · refine StepM.of rfl (fun L xs w' hd hl hJ K hK => ?_)
        obtain ⟨g, hg, hb, hgw⟩ := hJ.b2 (hd 6 (by simp))
        refine step_append_vec rfl _ _ 80 rfl 58 i1 _ 3 32 Tryz.underlying80 HJ.out.1 HJ.out.2.1 HJ.out.2.2.1 HJ.out.2.2.2 rfl (by decide) (.slice va n vc) n _ ?_ (hJ.c0 hl) (.slice (some ⟨g, 0, none⟩) 1 1) 1 [.int .i64 vp, .int .i64 vq, .string vz] ?_ (hb.reads rfl) (by intro u hu; simp at hu; rcases hu with hu | hu | hu <;> (rw [hu]; rfl)) (by have := HA.out; simp only [maxLen]; omega) (by have := HA.out; omega) ?_
        · (unfold fillA; simp only [List.foldl]; try go_frame)
          simp [Act.eval]
        · (unfold fillA; simp only [List.foldl]; try go_frame)
          simp [Act.eval, hg]
        · intro v' w2 hv' ho' hb'
          exact hK.out _ _ (hJ.c2' (hd 3 (by simp)) (fun g hg => (HGW.out.ok g hg).2.1) (fun g hg => (HGW.out.ov g hg).2.1) HGW.out.ap hv' ho' hb') _ rfl
    · intro xs w' hJ
      (unfold fillA; simp only [List.foldl]; try go_frame)
      obtain ⟨_, q2, q3, q4⟩ := hJ.c1 (by kernel_rfl)
      obtain ⟨r2, r3⟩ := hJ.a1 (by kernel_rfl)
      obtain ⟨z1, z2, z3, z4, z4z, z5, z6⟩ := SS.out _ hJ.all
      have hlv : vb < w'.heap.size := World.block_lt_of_cell? _ _ z2
      have y1 : ∀ u, (w'.setCell ⟨kb, 0, none⟩ u).cell? ⟨vb, 0, none⟩ = some (.slice va n vc) := fun u => ((setCell_only w' ⟨kb, 0, none⟩ u).cell (p := ⟨vb, 0, none⟩) hlv (Ne.symm HGW.out.n3)).trans z2
      have y2 : ∀ u, (w'.setCell ⟨kb, 0, none⟩ u).frozen? ⟨vb, 0, none⟩ = false := fun u => ((setCell_only w' ⟨kb, 0, none⟩ u).frozen (p := ⟨vb, 0, none⟩) hlv (Ne.symm HGW.out.n3)).trans z6
      have hend := gath_end (k := k) (v := (vp, vq, vz)) HGW.out hJ.all HA.out.1.symm r2 q2 r3 q3 q4
      obtain ⟨p1, d1, e1⟩ := r2.form'
      obtain ⟨p2, d2, e2⟩ := q2.form'
      rw [e1, e2] at hend ⊢
      have F := Lib.hid (show EachPost w mb kb vb most a N k (vp, vq, vz) (.returned (.bool true)) _ from by
        unfold EachPost
        rw [HFF.out]
        exact ⟨rfl, hend.1, HW.out.only.trans hend.2⟩)
      clear hJ q2 q3 q4 r2 r3 hend e1 e2 hlv
      refine wpAnyD_ready (rs := [8]) (by kernel_rfl) (by simp) ?_
      refine ReadyD.last rfl (by rfl) (fun K hK => ?_) ?_
      go_simp
      refine hK.out _ _ ?_
      (clear hK K; try go_frame)
      refine wpAnyD_ready (rs := [9]) (by kernel_rfl) (by simp) ?_
      refine ReadyD.last rfl (by rfl) (fun K hK => ?_) ?_
      go_simp
      refine hK.out _ _ ?_
      (clear hK K; try go_frame)
      refine wpAnyD_done (by kernel_rfl) ?_ _
      rotate_left
      exact ReadyD.nil
      exact ReadyD.nil
      go_wp2_with fail
      go_ret
      exact F.out
end Go.Proofs.YtedfijmaeoednaaGreatDoor.Ke

namespace Go.Proofs.YtedfijmaeoednaaGreatDoor.Ke
open Go.RowKit Go.Wh

/-- What is gone through. -/
def fromM : (d : Nat) → Nd d → Key → Nd 0
  | 0, l, k => l.drop (pos (keys l) k)
  | d + 1, l, k => (l.drop (childI (keys l) k)).flatMap fun x => fromM d (nd x) k

theorem fromM_flat : ∀ (d : Nat) (l : Nd d) (k : Key), Fit d l → (d = 0 ∨ 0 < l.length) → KS (keys (flat d l)) → fromM d l k = (flat d l).drop (pos (keys (flat d l)) k)
  | 0, _, _, _, _, _ => rfl
  | d + 1, l, k, hf, h0, hs => by
    have h0' : 0 < l.length := by omega
    have hi := child_lt h0' k
    obtain ⟨ha, hb⟩ := child_split hf h0' hs k
    have e0 : fromM (d + 1) l k = (l.drop (childI (keys l) k)).flatMap fun x => fromM d (nd x) k := rfl
    rw [e0]
    obtain ⟨i, hie⟩ : ∃ i, childI (keys l) k = i := ⟨_, rfl⟩
    rw [hie] at hi ha hb ⊢
    have hsub := hf.sub hi
    have ih := fromM_flat d (sub l i) k hsub.2.2.1 (.inr (by omega)) (Ke.KS.sub hs hi)
    have e := flat_split l i hi
    rw [e, drop_mid ha hb, ← ih]
    obtain ⟨x, hx, _, hxs, hl⟩ := split_at_i l i hi
    have e2 : l.drop i = x :: l.drop (i + 1) := by
      have e3 : (l.take i).length = i := by rw [List.length_take]; omega
      conv => lhs; rw [hl]
      exact List.drop_left' e3
    rw [e2, List.flatMap_cons, hxs]
    have hrest : ∀ (m : Nd (d + 1)), (∀ y ∈ m, y ∈ l) → (∀ b ∈ keys (flat (d + 1) m), bl k b = true) → KS (keys (flat (d + 1) m)) → (m.flatMap fun x => fromM d (nd x) k) = flat (d + 1) m := by
      intro m
      induction m with
      | nil => intros; rfl
      | cons y m ihm =>
        intro hm hbm hsm
        rw [flat_cons, keys_append] at hbm hsm
        rw [List.flatMap_cons, flat_cons, ihm (fun z hz => hm z (by simp [hz])) (fun b hb => hbm b (by simp [hb])) (List.pairwise_append.1 hsm).2.1]
        have hy := hf y (hm y (by simp))
        rw [fromM_flat d (nd y) k hy.2.2.2 (.inr (by omega)) (List.pairwise_append.1 hsm).1, pos_zero fun a ha => hbm a (by simp [ha])]
        rfl
    rw [hrest _ (fun y hy => List.mem_of_mem_drop hy) hb (by
      rw [e, keys_append, keys_append] at hs
      exact (List.pairwise_append.1 (List.pairwise_append.1 hs).2.1).2.1)]

theorem vals_get {x : Nd 0} {j : Nat} {e : Key × E 0} (h : x[j]? = some e) : (vals x)[j]? = some e.2 := by
  have : (vals x)[j]? = (x[j]?).map fun y => (show Rid from y.2) := List.getElem?_map
  rw [this, h]
  rfl

def FromPost (d : Nat) (x : Nd d) (k : Key) (w : World) (mb kb vb : Nat) (most : Int) (a : Nd 0) (N : Nat) (e : Ending) (w' : World) : Prop :=
  e = .returned (.bool (gather most a (fromM d x k)).2) ∧ Gath w' mb kb vb most (gather most a (fromM d x k)).1 N ∧ Only (fun b => N ≤ b) w w'

theorem gather_length (most : Int) : ∀ (l a : Nd 0), (gather most a l).1.length ≤ a.length + l.length
  | [], a => by simp [gather]
  | e :: l, a => by
    unfold gather
    split
    · simp
    · have := gather_length most l (a ++ [e])
      simp only [List.length_append, List.length_cons, List.length_nil] at this ⊢
      omega

theorem gather_cons (most : Int) (a l : Nd 0) (e : Key × E 0) : gather most a (e :: l) = if full most a then (a, false) else gather most (a ++ [e]) l := rfl

def clo (mb kb vb : Nat) : Value := .func (.func 59) #[] #[ptr mb, ptr kb, ptr vb]

set_option maxHeartbeats 1000000 in
set_option maxRecDepth 100000 in
theorem from_zero (w : World) (r : Nat) (x : Nd 0) (G : List Nat) (k : Key) (mb kb vb : Nat) (most : Int) (a : Nd 0) (N : Nat) (h : At 0 w r x G) (hx : x.length ≤ 90) (hs : KS (keys x)) (hG : ∀ b ∈ G, b < N) (hg : Gath w mb kb vb most a N) (ha : a.length + x.length ≤ 90000) :
    Calls Tryz.prog 58 #[ptr r, .string k, clo mb kb vb] w (FromPost 0 x k w mb kb vb most a N) := by
  obtain ⟨kv, vv, cv, hnd, hF, hd, hlt⟩ := (show Raw w r (keys x) (vals x) [] G from h)
  obtain ⟨ca, cc, rfl⟩ := hnd.c.form'
  obtain ⟨ka, kc, rfl⟩ := hnd.k.form'
  obtain ⟨va, vc, rfl⟩ := hnd.v.form'
  have hkx := keys_length x
  have hvx := vals_length x
  obtain ⟨n, hn⟩ : ∃ n, x.length = n := ⟨_, rfl⟩
  rw [hn] at hkx hvx hx ha
  have r0 : w.cell? ⟨r, 0, none⟩ = some (.slice ka n kc) := by rw [← hkx]; exact hnd.cells.cell 0
  have r2 : w.cell? ⟨r, 2, none⟩ = some (.slice ca 0 cc) := hnd.cells.cell 2
  have HS := Lib.hid (search_any (.slice ka (keys x).length kc) (keys x).length (keys x) k w hnd.k hs (by omega))
  rw [hkx] at HS
  have hp := pos_le (keys x) k
  rw [hkx] at hp
  obtain ⟨p, hpp⟩ : ∃ p, pos (keys x) k = p := ⟨_, rfl⟩
  rw [hpp] at HS hp
  have hfm : fromM 0 x k = x.drop p := by unfold fromM; rw [hpp]
  -- what a step wants
  have hst : ∀ w' j e, Only (fun b => N ≤ b) w w' → x[j]? = some e → w'.cell? ⟨r, 0, none⟩ = some (.slice ka n kc) ∧ w'.cell? ⟨r, 1, none⟩ = some (.slice va n vc) ∧ ∃ gk ok gv ov, ka = some ⟨gk, ok, none⟩ ∧ va = some ⟨gv, ov, none⟩ ∧ w'.cell? ⟨gk, ok + j, none⟩ = some (.string e.1) ∧ w'.cell? ⟨gv, ov + j * 3, none⟩ = some (.int .i64 (show Rid from e.2).1) ∧ w'.cell? ⟨gv, ov + j * 3 + 1, none⟩ = some (.int .i64 (show Rid from e.2).2.1) ∧ w'.cell? ⟨gv, ov + j * 3 + 2, none⟩ = some (.string (show Rid from e.2).2.2) := fun w' j e ho he => by
    have hn' := hnd.only ho fun b hb hN => by have := hG b (hF ▸ hb); omega
    have hj : j < n := by rw [← hn]; exact (List.getElem?_eq_some_iff.1 he).1
    obtain ⟨gk, ok, pk, ek, hk⟩ := hn'.k.form (by omega)
    obtain ⟨gv, ov, pv, ev, hv⟩ := hn'.v.form (by omega)
    injection ek with ek1 ek2 ek3
    injection ev with ev1 ev2 ev3
    have e1 : (keys x)[j]? = some e.1 := by unfold keys; rw [List.getElem?_map, he]; rfl
    have e2 : (vals x)[j]? = some e.2 := vals_get he
    have hr := rcells_get (vals x) j e.2 e2
    refine ⟨by rw [← hkx]; exact hn'.cells.cell 0, by rw [← hvx]; exact hn'.cells.cell 1, gk, ok, gv, ov, ek1, ev1, ?_, ?_, ?_, ?_⟩
    · rw [hk.cell j (by omega)]
      exact kcells_get e1
    · rw [hv.cell (j * 3) (by omega)]
      exact hr.1
    · rw [Nat.add_assoc, hv.cell (j * 3 + 1) (by omega)]
      exact hr.2.1
    · rw [Nat.add_assoc, hv.cell (j * 3 + 2) (by omega)]
      exact hr.2.2
  have HST := Lib.hid hst
  have EA := Lib.hid (fun w' a' k' v' hg' ha' => each_any w' mb kb vb most a' N k' v' hg' ha')
  have HG := Lib.hid hg
  have HX := Lib.hid (And.intro hn (And.intro hfm (And.intro hx (And.intro ha hp))))
  have R0 := Lib.hid (fun w' (ho : Only (fun b => N ≤ b) w w') => show w'.cell? ⟨r, 0, none⟩ = some (.slice ka n kc) from by
    have hn' := hnd.only ho fun b hb hN => by have := hG b (hF ▸ hb); omega
    rw [← hkx]; exact hn'.cells.cell 0)
  clear hnd hF hd hlt hkx hvx hn hs hG hg hst hfm hpp h
  unfold ptr ridV at EA
  unfold clo ptr
  go_enter Tryz.func58, Tryz.ntmps58
  go_wp2_with fail
  refine HS.out.mono ?_
  rintro e w ⟨rfl, rfl⟩
  clear HS
  go_wp2_with fail
  go_loopw [7] (fun s wr => ∃ (j : Nat) (a' : Nd 0), s = .int .i64 j ∧ j ≤ n ∧ gather most a (x.drop p) = gather most a' (x.drop j) ∧ Gath wr mb kb vb most a' N ∧ Only (fun b => N ≤ b) w wr ∧ a'.length ≤ a.length + j) (fun s _ => n - (intOf s).toNat)
  case atStart => exact ⟨p, a, rfl, hp, rfl, HG.out, Only.refl _ _, by omega⟩
  case round =>
    obtain ⟨j, a', rfl, hjn, hga, hgw, how, hal⟩ := hrel
    by_cases hj : j < n
    · obtain ⟨e, he⟩ : ∃ e, x[j]? = some e := ⟨_, List.getElem?_eq_getElem (by have := HX.out.1; omega)⟩
      obtain ⟨z0, z1, gk, ok, gv, ov, rfl, rfl, z2, z3, z4, z5⟩ := HST.out _ j e how he
      have hdrop : x.drop j = e :: x.drop (j + 1) := by
        rw [List.drop_eq_getElem_cons (by have := HX.out.1; omega)]
        rw [(List.getElem?_eq_some_iff.1 he).2]
      have hkr : kr e.1 e.2 = e := rfl
      have EC := Lib.hid (fun w' (hs : Still wr w') => EA.out w' a' e.1 e.2 (hgw.only hs fun _ e => e.elim) (by have := HX.out.2.2.2.1; omega))
      have HH := Lib.hid (And.intro hga (And.intro hgw (And.intro how (And.intro hal (And.intro hdrop hkr)))))
      have t1 : decide ((j : Int) < (n : Int)) = true := by simp; omega
      have t2 : decide (j < n) = true := by simp; omega
      have b0 : (0 : Int) ≤ (j : Int) := by omega
      have b1 : (j : Int) < (n : Int) := by omega
      have u9 : IntKind.i64.wrap ((j : Int) + 1) = (j : Int) + 1 := IntWalk.i64_in _ (by have := HX.out.2.2.1; omega)
      clear hga hgw how hal hdrop hkr he
      generalize hv1 : (show Rid from e.2).1 = v1 at *
      generalize hv2 : (show Rid from e.2).2.1 = v2 at *
      generalize hv3 : (show Rid from e.2).2.2 = v3 at *
      go_wp2_with fail
      go_still_tail 15, (by kernel_rfl)
      go_wp2_with fail
      (with_reducible refine (EC.out _ ?_).mono ?_)
      · exact Only.drew (Only.refl _ _)
      rintro e' w2 ⟨rfl, hg2, ho2⟩
      cases hf : full most a' with
      | true =>
        have FN := Lib.hid (show FromPost 0 x k w mb kb vb most a N (.returned (.bool false)) w2 from by
          have h1 := HH.out.1
          rw [HH.out.2.2.2.2.1] at h1
          rw [gather_cons, hf] at h1
          rw [hf] at hg2
          have h2 : gather most a (x.drop p) = (a', false) := h1
          unfold FromPost
          rw [HX.out.2.1, h2]
          exact ⟨rfl, hg2, HH.out.2.2.1.trans ho2.undrew⟩)
        clear hg2 ho2 hf
        go_wp2_with fail
        go_ret
        exact FN.out
      | false =>
        have FN := Lib.hid (show gather most a (x.drop p) = gather most (a' ++ [e]) (x.drop (j + 1)) ∧ Gath w2 mb kb vb most (a' ++ [e]) N ∧ Only (fun b => N ≤ b) w w2 ∧ (a' ++ [e]).length ≤ a.length + (j + 1) from by
          have h1 := HH.out.1
          rw [HH.out.2.2.2.2.1] at h1
          have h3 : gather most a' (e :: x.drop (j + 1)) = gather most (a' ++ [e]) (x.drop (j + 1)) := by
            rw [gather_cons, hf]
            rfl
          rw [hf] at hg2
          refine ⟨h1.trans h3, hg2, HH.out.2.2.1.trans ho2.undrew, ?_⟩
          have := HH.out.2.2.2.1
          simp only [List.length_append, List.length_cons, List.length_nil]
          omega)
        clear hg2 ho2 hf
        go_wp2_with fail
        go_roundw
        case rel => exact ⟨j + 1, _, by go_num, by omega, FN.out⟩
        case measure => simp [intOf]; omega
    · have hge : j = n := by omega
      subst hge
      have FN := Lib.hid (show FromPost 0 x k w mb kb vb most a N (.returned (.bool true)) wr from by
        have hd0 : x.drop j = [] := List.drop_eq_nil_of_le (by have := HX.out.1; omega)
        rw [hd0] at hga
        unfold FromPost
        rw [HX.out.2.1, hga]
        exact ⟨rfl, hgw, how⟩)
      have z0 := R0.out _ how
      have t1 : decide ((j : Int) < (j : Int)) = false := by simp
      clear hga hgw how hal
      go_wp2_with fail
      go_ret
      exact FN.out
end Go.Proofs.YtedfijmaeoednaaGreatDoor.Ke

namespace Go.Proofs.YtedfijmaeoednaaGreatDoor.Ke
open Go.RowKit Go.Wh

theorem flat_take_succ {d : Nat} (l : Nd (d + 1)) (i : Nat) (hi : i < l.length) : flat (d + 1) (l.take (i + 1)) = flat (d + 1) (l.take i) ++ flat d (sub l i) := by
  obtain ⟨x, _, hg, hx, _⟩ := split_at_i l i hi
  rw [List.take_add_one, hg, Option.toList_some, flat_append, flat_one, hx]
theorem drop_succ_flat {d : Nat} (l : Nd (d + 1)) (i : Nat) (hi : i < l.length) (f : Nd d → Nd 0) : ((l.drop i).flatMap fun x => f (nd x)) = f (sub l i) ++ (l.drop (i + 1)).flatMap fun x => f (nd x) := by
  obtain ⟨x, _, hg, hx, _⟩ := split_at_i l i hi
  have e : l.drop i = x :: l.drop (i + 1) := by
    rw [List.drop_eq_getElem_cons hi, (List.getElem?_eq_some_iff.1 hg).2]
  rw [e, List.flatMap_cons, hx]
theorem flat_take_le {d : Nat} (l : Nd (d + 1)) (i : Nat) : (flat (d + 1) (l.take i)).length ≤ (flat (d + 1) l).length := by
  have := flat_take_drop (d + 1) l i
  rw [← this, List.length_append]
  omega

abbrev FromOK (d : Nat) : Prop := ∀ (w : World) (r : Nat) (x : Nd d) (G : List Nat) (k : Key) (mb kb vb : Nat) (most : Int) (a : Nd 0) (N : Nat), At d w r x G → Fit d x → (d = 0 ∨ 0 < x.length) → x.length ≤ 4 → KS (keys (flat d x)) → (∀ b ∈ G, b < N) → Gath w mb kb vb most a N → a.length + (flat d x).length ≤ 90000 →
    Calls Tryz.prog 58 #[ptr r, .string k, clo mb kb vb] w (FromPost d x k w mb kb vb most a N)

set_option maxHeartbeats 1000000 in
set_option maxRecDepth 100000 in
theorem from_in (d : Nat) (ih : FromOK d) : FromOK (d + 1) := by
  intro w r x G k mb kb vb most a N h hf h0 h4 hs hG hg ha
  obtain ⟨rs, F0, Fs, hin, hFF⟩ := h.inr
  have hlen : rs.length = x.length := by have := hin.kids.lenR; rw [subs_length] at this; exact this
  have hkx := keys_length x
  have hil := child_lt (show 0 < x.length by omega) k
  obtain ⟨kv, vv, cv, hnd, hF, hd, hlt⟩ := hin.raw
  obtain ⟨g2, o2, p2, rfl, hcv⟩ := hnd.c.form (by omega)
  have hcl := hcv.le
  obtain ⟨n, hn⟩ : ∃ n, x.length = n := ⟨_, rfl⟩
  have hfm : fromM (d + 1) x k = (x.drop (childI (keys x) k)).flatMap fun y => fromM d (nd y) k := rfl
  obtain ⟨i, hi⟩ : ∃ i, childI (keys x) k = i := ⟨_, rfl⟩
  have k0 : w.cell? ⟨r, 2, none⟩ = some (.slice (some ⟨g2, o2, none⟩) rs.length p2) := hnd.cells.cell 2
  have HC := Lib.hid (child_any w.drew r (keys x) [] rs F0 k (hin.raw.still (Only.drew (Only.refl _ _))) (by omega) (by omega) (by omega))
  rw [hi] at hil hfm HC
  rw [hlen, hn] at k0
  rw [hlen] at hcl
  -- each child, later
  have hst : ∀ w' m, Only (fun b => N ≤ b) w w' → m < x.length → ∃ q f, w'.cell? ⟨g2, o2 + m, none⟩ = some (.pointer (some ⟨q, 0, none⟩)) ∧ At d w' q (sub x m) f ∧ ∀ b ∈ f, b < N := fun w' m ho hm => by
    have hin' : Inr d w' r (keys x) rs rs (subs x) F0 Fs := by
      refine ⟨hin.raw.only ho fun b hb hN => ?_, hin.kids.imp fun _ _ f hf h => h.only ho fun b hb hN => ?_, hin.nd⟩
      · have := hG b (by rw [hFF]; simp [hb]); omega
      · have := hG b (by rw [hFF]; exact List.mem_append_right _ (List.mem_flatten.2 ⟨f, hf, hb⟩)); omega
    obtain ⟨ra, q, rb, Fa, f, Fb, _, hFs, _, _, hq, _, hrq⟩ := hin'.focus m (subs_split x m hm) (subs_length_take x m hm)
    have hcc := (hnd.only ho fun b hb hN => by have := hG b (by rw [hFF, hF]; exact List.mem_append_left _ hb); omega).c.at
    refine ⟨q, f, ?_, hq, fun b hb => hG b ?_⟩
    · rw [hcc.cell m (by omega)]
      exact pcells_get hrq
    · rw [hFF, hFs]
      simp [hb]
  have HST := Lib.hid hst
  have HX := Lib.hid (And.intro hn (And.intro hfm (And.intro h4 (And.intro ha (And.intro hf (And.intro hs hil))))))
  have HG := Lib.hid hg
  have IH := Lib.hid (fun w' q c f k' most' a' hat hfit hne hc4 hks hfN hgath hbd => ih w' q c f k' mb kb vb most' a' N hat hfit hne hc4 hks hfN hgath hbd)
  rw [hn] at hil hcl
  have hn4 : n ≤ 4 := by omega
  obtain ⟨m, hm⟩ : ∃ m, n - i = m := ⟨_, rfl⟩
  have t1 : ((n : Int) == 0) = false := by rw [beq_eq_false_iff_ne]; omega
  have b0 : (0 : Int) ≤ (i : Int) := by omega
  have b1 : (i : Int) ≤ (n : Int) := by omega
  have b2 : (n : Int) ≤ (p2 : Int) := by omega
  have b3 : (i : Int) ≤ (p2 : Int) := by omega
  clear h hf h0 h4 hs hG hg ha hin hFF hlen hkx hnd hF hd hlt hcv hn hfm hi hst ih
  unfold ptr at HC IH
  unfold clo ptr at IH
  unfold clo ptr
  go_enter Tryz.func58, Tryz.ntmps58
  go_wp2_with fail
  refine wp_region_D_drew (D := (fun i => [0, 1, 2, 4, 5, 9].contains i)) (S := (fun w' => w'.cell? ⟨r, 2, none⟩ = some (.slice (some ⟨g2, o2, none⟩) n p2))) (by kernel_rfl) ?_ (fun hHeld => ?_)
  · ((try dsimp only) <;> (exact k0))
  (refine takeD (i := 0) (some 52) (v := ?_) rfl (by rfl) (by rfl) (by kernel_rfl) (by rfl) (fun _ _ _ h => h) ?_ ?_; rotate_left; (intro w; go_simp; try with_reducible rfl); try go_frame)
  (refine takeD (i := 1) (some 53) (v := ?_) rfl (by rfl) (by rfl) (by kernel_rfl) (by rfl) (fun _ _ _ h => h) ?_ ?_; rotate_left; (intro w; go_simp; try with_reducible rfl); try go_frame)
  (refine takeD (i := 2) (some 54) (v := ?_) rfl (by rfl) (by rfl) (by kernel_rfl) (by rfl) (fun _ _ _ h => h) ?_ ?_; rotate_left; (intro w; go_simp; try with_reducible rfl); try go_frame)
  (refine takeD (i := 4) (some 56) (v := ?_) rfl (by rfl) (by rfl) (by kernel_rfl) (by rfl) (fun _ _ _ h => h) ?_ ?_; rotate_left; (intro w; go_simp; try with_reducible rfl); try go_frame)
  (refine takeD (i := 5) (some 57) (v := ?_) rfl (by rfl) (by rfl) (by kernel_rfl) (by rfl) (fun _ _ _ h => h) ?_ ?_; rotate_left; (intro w; go_simp; try with_reducible rfl); try go_frame)
  (refine takeD (i := 9) (some 61) (v := ?_) rfl (by rfl) (by rfl) (by kernel_rfl) (by rfl) (fun _ _ _ h => h) ?_ ?_; rotate_left; (intro w; go_simp; try with_reducible rfl); try go_frame)
  (refine takeS (i := 3) (some 55) (v := ?_) rfl (by rfl) (by rfl) (by kernel_rfl) (by rfl) (fun _ _ _ h => h) (by assumption) ?_ ?_; rotate_left; (intro w hSw; (try dsimp only at hSw); go_simp; try with_reducible rfl); try go_frame)
  refine wpAnyD_ready (rs := [6]) (by kernel_rfl) (by simp) ?_
  refine ReadyD.cons rfl (fun K hK => ?_) ?_
  go_simp
  (go_at_call 49; (with_reducible refine HC.out.mono ?_); rintro e w0 ⟨rfl, rfl⟩)
  go_wp2_with fail
  (refine hK.out _ _ ?_ (fun hNew => ?_); (focus ((try dsimp only) <;> (exact k0))); clear hHeld; have hHeld := hNew; clear hNew)
  (clear hK K; try go_frame)
  (refine takeS (i := 7) (some 59) (v := ?_) rfl (by rfl) (by rfl) (by kernel_rfl) (by rfl) (fun _ _ _ h => h) (by assumption) ?_ ?_; rotate_left; (intro w hSw; (try dsimp only at hSw); go_simp; try with_reducible rfl); try go_frame)
  (refine takeS (i := 8) (some 60) (v := ?_) rfl (by rfl) (by rfl) (by kernel_rfl) (by rfl) (fun _ _ _ h => h) (by assumption) ?_ ?_; rotate_left; (intro w hSw; (try dsimp only at hSw); go_simp; try with_reducible rfl); try go_frame)
  refine wpAnyD_done (by kernel_rfl) ?_ _
  rotate_left
  exact ReadyD.nil
  go_wp2_with fail
  clear k0
  go_loopw [61] (fun s wr => ∃ (j : Nat) (a' : Nd 0), s = .int .i64 j ∧ j ≤ m ∧ gather most a (fromM (d + 1) x k) = gather most a' ((x.drop (i + j)).flatMap fun y => fromM d (nd y) k) ∧ Gath wr mb kb vb most a' N ∧ Only (fun b => N ≤ b) w wr ∧ a'.length ≤ a.length + (flat (d + 1) (x.take (i + j))).length) (fun s _ => m - (intOf s).toNat)
  case atStart => exact ⟨0, a, rfl, Nat.zero_le _, by rw [HX.out.2.1]; rfl, HG.out.only (Only.drew (Only.refl (fun _ => False) w)) (fun _ e => e.elim), Only.drew (Only.refl _ w), by omega⟩
  case round =>
    obtain ⟨j, a', rfl, hjm, hga, hgw, how, hal⟩ := hrel
    by_cases hj : j < m
    · have hix : i + j < x.length := by have := HX.out.1; omega
      obtain ⟨q, f, y0, y1, y2⟩ := HST.out wr (i + j) how hix
      have y3 : wr.cell? ⟨g2, o2 + i + j, none⟩ = some (.pointer (some ⟨q, 0, none⟩)) := by rw [Nat.add_assoc]; exact y0
      have hsub := HX.out.2.2.2.2.1.sub hix
      have hks := Ke.KS.sub HX.out.2.2.2.2.2.1 hix
      have hfl := flat_take_succ x (i + j) hix
      have hle := flat_take_le x (i + j + 1)
      have hbd : a'.length + (flat d (sub x (i + j))).length ≤ 90000 := by
        rw [hfl, List.length_append] at hle
        have := HX.out.2.2.2.1
        omega
      have HP := Lib.hid (IH.out wr q (sub x (i + j)) f k most a' y1 hsub.2.2.1 (.inr (by omega)) hsub.2.1 hks y2 hgw hbd)
      have hsplit : ((x.drop (i + j)).flatMap fun y => fromM d (nd y) k) = fromM d (sub x (i + j)) k ++ ((x.drop (i + j + 1)).flatMap fun y => fromM d (nd y) k) := drop_succ_flat x (i + j) hix (fun y => fromM d y k)
      have hglen := gather_length most (fromM d (sub x (i + j)) k) a'
      have hfl2 : (fromM d (sub x (i + j)) k).length ≤ (flat d (sub x (i + j))).length := by
        rw [fromM_flat d _ k hsub.2.2.1 (.inr (by omega)) hks, List.length_drop]
        omega
      have HH := Lib.hid (And.intro hga (And.intro how (And.intro hal (And.intro hsplit (And.intro hglen (And.intro hfl2 hfl))))))
      have a1 : decide ((j : Int) < (m : Int)) = true := by simp; omega
      have a2 : decide (j < m) = true := by simp; omega
      have a3 : (0 : Int) ≤ (j : Int) := by omega
      have a4 : (j : Int) < (m : Int) := by omega
      have u9 : IntKind.i64.wrap ((j : Int) + 1) = (j : Int) + 1 := IntWalk.i64_in _ (by omega)
      clear hga hgw how hal hsplit hglen hfl2 hfl hle hbd hks hsub hix y0 y1 y2
      go_wp2_with fail
      refine HP.out.mono ?_
      rintro e' w2 ⟨rfl, hg2, ho2⟩
      have hO := HH.out.2.1.trans ho2
      clear HP
      obtain ⟨⟨a2, done⟩, hgr⟩ : ∃ z, gather most a' (fromM d (sub x (i + j)) k) = z := ⟨_, rfl⟩
      rw [hgr] at hg2 ⊢
      have hga := HH.out.1
      have hglen := HH.out.2.2.2.2.1
      rw [HH.out.2.2.2.1, gather_append, hgr] at hga
      rw [hgr] at hglen
      cases done with
      | false =>
        have FN := Lib.hid (show FromPost (d + 1) x k w mb kb vb most a N (.returned (.bool false)) w2 from by
          have h2 : gather most a (fromM (d + 1) x k) = (a2, false) := hga
          unfold FromPost
          rw [h2]
          exact ⟨rfl, hg2, hO⟩)
        clear hg2 ho2 hO hga hglen hgr
        go_wp2_with fail
        go_ret
        exact FN.out
      | true =>
        have FN := Lib.hid (show gather most a (fromM (d + 1) x k) = gather most a2 ((x.drop (i + (j + 1))).flatMap fun y => fromM d (nd y) k) ∧ Gath w2 mb kb vb most a2 N ∧ Only (fun b => N ≤ b) w w2 ∧ a2.length ≤ a.length + (flat (d + 1) (x.take (i + (j + 1)))).length from by
          refine ⟨hga, hg2, hO, ?_⟩
          have h1 := HH.out.2.2.1
          have h2 := HH.out.2.2.2.2.2.1
          have h3 := HH.out.2.2.2.2.2.2
          show a2.length ≤ a.length + (flat (d + 1) (x.take (i + j + 1))).length
          rw [h3, List.length_append]
          simp only at hglen
          omega)
        clear hg2 ho2 hO hga hglen hgr
        go_wp2_with fail
        go_roundw
        case rel => exact ⟨j + 1, _, by go_num, by omega, FN.out⟩
        case measure => simp [intOf]; omega
    · have hge : j = m := by omega
      subst hge
      have FN := Lib.hid (show FromPost (d + 1) x k w mb kb vb most a N (.returned (.bool true)) wr from by
        have hd0 : x.drop (i + j) = [] := List.drop_eq_nil_of_le (by have := HX.out.1; omega)
        rw [hd0] at hga
        have h2 : gather most a (fromM (d + 1) x k) = (a', true) := hga
        unfold FromPost
        rw [h2]
        exact ⟨rfl, hgw, how⟩)
      have t1 : decide ((j : Int) < (j : Int)) = false := by simp
      clear hga hgw how hal
      go_wp2_with fail
      go_ret
      exact FN.out
end Go.Proofs.YtedfijmaeoednaaGreatDoor.Ke

namespace Go.Proofs.YtedfijmaeoednaaGreatDoor
open Go.RowKit Go.Wh

theorem from_any : ∀ (d : Nat), FromOK d
  | 0 => fun w r x G k mb kb vb most a N h _ _ h4 hs hG hg ha => from_zero w r x G k mb kb vb most a N h (by omega) hs hG hg ha
  | d + 1 => from_in d (from_any d)

theorem results_cell2 {fn : Func} {p q : Tmp} {ty tz : TypeId} (h : fn.results = #[.cell p ty, .cell q tz]) (tmps : Array Value) (P : Program) (w : World) :
    (results fn tmps).run P w =
      ((asAddr (tmps.getD p undef)).run P w).andThen fun a w₁ => ((loadVar ty a).run P w₁).andThen fun v w₂ => ((asAddr (tmps.getD q undef)).run P w₂).andThen fun b w₃ => ((loadVar tz b).run P w₃).andThen fun u w₄ => .ok (.tuple #[v, u]) w₄ := by
  simp only [results, h]
  simp [Sem.run_bind, Result.andThen]

/-- What From tells. -/
def fromL (l : Nd 0) (k : Key) (most : Int) : Nd 0 := (gather most [] (l.drop (pos (keys l) k))).1
structure Told (w w' : World) (res : Nd 0) (kv vv : Value) : Prop where
  k : Vec w' 1 kv res.length (kcells (keys res))
  v : Vec w' 2 vv res.length (rcells (vals res))
  ok : ∀ g, kv.ownBlock = some g → w.heap.size ≤ g ∧ g < w'.heap.size
  ov : ∀ g, vv.ownBlock = some g → w.heap.size ≤ g ∧ g < w'.heap.size
  ap : ∀ g, kv.ownBlock = some g → vv.ownBlock ≠ some g
  still : Still w w'
def TFrom (w : World) (l : Nd 0) (k : Key) (most : Int) (e : Ending) (w' : World) : Prop := ∃ kv vv, e = .returned (.tuple #[kv, vv]) ∧ Told w w' (fromL l k most) kv vv

theorem gath_new (w : World) (most : Int) (t1 t2 t3 : TypeId) : Gath (((w.alloc (.cells #[.int .i64 most] t1)).alloc (.cells #[.slice none 0 0] t2)).alloc (.cells #[.slice none 0 0] t3)) w.heap.size (w.heap.size + 1) (w.heap.size + 1 + 1) most [] w.heap.size := by
  have a1 := cellsAt_new w [.int .i64 most] t1
  have a2 := cellsAt_new (w.alloc (.cells #[.int .i64 most] t1)) [.slice none 0 0] t2
  have a3 := cellsAt_new ((w.alloc (.cells #[.int .i64 most] t1)).alloc (.cells #[.slice none 0 0] t2)) [.slice none 0 0] t3
  have z1 : (w.alloc (.cells #[.int .i64 most] t1)).heap.size = w.heap.size + 1 := by simp
  have z2 : ((w.alloc (.cells #[.int .i64 most] t1)).alloc (.cells #[.slice none 0 0] t2)).heap.size = w.heap.size + 1 + 1 := by simp
  rw [z1] at a2
  rw [z2] at a3
  exact ⟨.slice none 0 0, .slice none 0 0, (a1.alloc _).alloc _, a2.alloc _, a3, Vec.nil _ _, Vec.nil _ _, (by intro g h; cases h), (by intro g h; cases h), (by intro g h; cases h), by omega, by omega, by omega, by omega⟩

set_option maxHeartbeats 1000000 in
set_option maxRecDepth 100000 in
theorem tfrom (w : World) (t : Nat) (l : Nd 0) (F : List Nat) (k : Key) (most : Int) (h : TreeAt w t l F) (hl : l.length ≤ 90000) :
    Calls Tryz.prog 36 #[ptr t, .string k, .int .i64 most] w (TFrom w l k most) := by
  obtain ⟨d, r, x, G, hc, hat, hF, htG, hg, hfl⟩ := h
  have hfm := fromM_flat d x k hg.fit hg.nonempty hg.ks
  rw [hfl] at hfm
  have c0 : ∀ A B C, (((w.alloc A).alloc B).alloc C).cell? ⟨t, 0, none⟩ = some (.pointer (some ⟨r, 0, none⟩)) := fun A B C => (((hc.alloc A).alloc B).alloc C).cell 0
  have S3 : ∀ A B C, Still w (((w.alloc A).alloc B).alloc C) := fun A B C => (((Still.refl w).alloc A).alloc B).alloc C
  have HP := Lib.hid (fun t1 t2 t3 => from_any d (((w.alloc (.cells #[.int .i64 most] t1)).alloc (.cells #[.slice none 0 0] t2)).alloc (.cells #[.slice none 0 0] t3)) r x G k w.heap.size (w.heap.size + 1) (w.heap.size + 1 + 1) most [] w.heap.size
    (hat.only (S3 _ _ _) fun _ _ e => e) hg.fit hg.nonempty hg.four hg.ks hat.lt (gath_new w most t1 t2 t3) (by rw [hfl]; simpa using hl))
  have HS3 := Lib.hid S3
  have HX := Lib.hid hfm
  clear hc hat hF htG hg hfl hfm S3
  unfold clo ptr at HP
  unfold ptr
  go_enter Tryz.func36, Tryz.ntmps36
  go_wp2_with fail
  refine (HP.out _ _ _).mono ?_
  rintro e w2 ⟨rfl, hg2, ho2⟩
  rw [HX.out] at hg2
  have SW := Lib.hid ((HS3.out (.cells #[.int .i64 most] 3) (.cells #[.slice none 0 0] 42) (.cells #[.slice none 0 0] 43)).size)
  have hst : Still w w2 := by
    have h1 : Only (fun b => w.heap.size ≤ b) w w2 := ((HS3.out (.cells #[.int .i64 most] 3) (.cells #[.slice none 0 0] 42) (.cells #[.slice none 0 0] 43)).only (S := fun b => w.heap.size ≤ b)).trans ho2
    exact ⟨h1.os, h1.tape, h1.output, h1.size, fun i hi _ => h1.block i hi (by omega)⟩
  obtain ⟨kv, vv, hgv⟩ := hg2
  have hres : (gather most [] (l.drop (pos (keys l) k))).1 = fromL l k most := rfl
  rw [hres] at hgv
  obtain ⟨n, hn⟩ : ∃ n, (fromL l k most).length = n := ⟨_, rfl⟩
  obtain ⟨ka, kc, rfl⟩ := hgv.kk.form'
  obtain ⟨va, vc, rfl⟩ := hgv.vk.form'
  have hk0 := hgv.k
  have hv0 := hgv.v
  have h1 := hgv.nm
  have h2 := hgv.n3
  have hold := hgv.ok
  have hovd := hgv.ov
  have hbl : w.heap.size + 1 + 1 < w2.heap.size := hv0.lt
  have hTold : Told w ((w2.setCell ⟨w.heap.size + 1, 0, none⟩ (.slice ka (fromL l k most).length kc)).setCell ⟨w.heap.size + 1 + 1, 0, none⟩ (.slice va (fromL l k most).length vc)).drew (fromL l k most) (.slice ka (fromL l k most).length kc) (.slice va (fromL l k most).length vc) := by
    have hz : ((w2.setCell ⟨w.heap.size + 1, 0, none⟩ (.slice ka (fromL l k most).length kc)).setCell ⟨w.heap.size + 1 + 1, 0, none⟩ (.slice va (fromL l k most).length vc)).drew.heap.size = w2.heap.size := by simp [World.setCell]
    refine ⟨(vec_set (vec_set hgv.kk (p := ⟨w.heap.size + 1, 0, none⟩) (fun e => (hold _ e).2.2.2.1 rfl) _) (p := ⟨w.heap.size + 1 + 1, 0, none⟩) (fun e => (hold _ e).2.2.2.2 rfl) _).drew, (vec_set (vec_set hgv.vk (p := ⟨w.heap.size + 1, 0, none⟩) (fun e => (hovd _ e).2.2.2.1 rfl) _) (p := ⟨w.heap.size + 1 + 1, 0, none⟩) (fun e => (hovd _ e).2.2.2.2 rfl) _).drew,
      fun g hg => by rw [hz]; have := hold g hg; omega, fun g hg => by rw [hz]; have := hovd g hg; omega, hgv.ap, ?_⟩
    exact (Only.setCell (Only.setCell hst (p := ⟨w.heap.size + 1, 0, none⟩) (.inr (by simp)) _) (p := ⟨w.heap.size + 1 + 1, 0, none⟩) (.inr (by simp; omega)) _).drew
  have s0 : w2.cell? ⟨w.heap.size + 1, 0, none⟩ = some (.slice ka n kc) := by rw [← hn]; exact hk0.cell 0
  have s1 : w2.cell? ⟨w.heap.size + 1 + 1, 0, none⟩ = some (.slice va n vc) := by rw [← hn]; exact hv0.cell 0
  have s2 : w2.frozen? ⟨w.heap.size + 1, 0, none⟩ = false := hk0.free 0
  have s3 : w2.frozen? ⟨w.heap.size + 1 + 1, 0, none⟩ = false := hv0.free 0
  have s4 : ∀ u, (w2.setCell ⟨w.heap.size + 1, 0, none⟩ u).cell? ⟨w.heap.size + 1 + 1, 0, none⟩ = some (.slice va n vc) := fun u => by
    rw [← hn]
    exact (hv0.setOther (p := ⟨w.heap.size + 1, 0, none⟩) (Ne.symm h2) u).cell 0
  have s5 : ∀ u, (w2.setCell ⟨w.heap.size + 1, 0, none⟩ u).frozen? ⟨w.heap.size + 1 + 1, 0, none⟩ = false := fun u => (hv0.setOther (p := ⟨w.heap.size + 1, 0, none⟩) (Ne.symm h2) u).free 0
  rw [hn] at hTold
  have HT := Lib.hid hTold
  have HR := Lib.hid (show ∀ A B, ((w2.setCell ⟨w.heap.size + 1, 0, none⟩ A).setCell ⟨w.heap.size + 1 + 1, 0, none⟩ B).cell? ⟨w.heap.size + 1, 0, none⟩ = some A from fun A B => by
    exact ((hk0.setCell 0 A).setOther (p := ⟨w.heap.size + 1 + 1, 0, none⟩) h2 _).cell 0)
  have HR2 := Lib.hid (show ∀ A B, ((w2.setCell ⟨w.heap.size + 1, 0, none⟩ A).setCell ⟨w.heap.size + 1 + 1, 0, none⟩ B).cell? ⟨w.heap.size + 1 + 1, 0, none⟩ = some B from fun A B => by
    exact ((hv0.setOther (p := ⟨w.heap.size + 1, 0, none⟩) (Ne.symm h2) A).setCell 0 B).cell 0)
  clear hk0 hv0 h1 h2 hold hovd hTold hgv hn hres ho2 hst HP HX HS3 SW c0 hbl
  go_wp2_with fail
  refine wp_region_D_drew (D := (fun i => [0, 1, 2, 3].contains i)) (S := (fun _ => True)) (by kernel_rfl) ?_ (fun hHeld => ?_)
  · ((try dsimp only) <;> (trivial))
  refine wpAnyD_ready (rs := [0, 1]) (by kernel_rfl) (by simp) ?_
  refine ReadyD.last rfl (by rfl) (fun K hK => ?_) ?_
  go_simp
  refine hK.out _ _ ?_
  (clear hK K; try go_frame)
  refine wpAnyD_ready (rs := [1, 2]) (by kernel_rfl) (by simp) ?_
  refine ReadyD.last rfl (by rfl) (fun K hK => ?_) ?_
  go_simp
  refine hK.out _ _ ?_
  (clear hK K; try go_frame)
  refine wpAnyD_ready (rs := [2]) (by kernel_rfl) (by simp) ?_
  refine ReadyD.last rfl (by rfl) (fun K hK => ?_) ?_
  go_simp
  refine hK.out _ _ ?_
  (clear hK K; try go_frame)
  refine wpAnyD_ready (rs := [3]) (by kernel_rfl) (by simp) ?_
  refine ReadyD.last rfl (by rfl) (fun K hK => ?_) ?_
  go_simp
  refine hK.out _ _ ?_
  (clear hK K; try go_frame)
  refine wpAnyD_done (by kernel_rfl) ?_ _
  rotate_left
  exact ReadyD.nil
  exact ReadyD.nil
  refine ReadyD.last rfl (by rfl) (fun K hK => ?_) ?_
  go_simp
  refine hK.out _ _ ?_
  (clear hK K; try go_frame)
  refine wpAnyD_ready (rs := [1]) (by kernel_rfl) (by simp) ?_
  refine ReadyD.last rfl (by rfl) (fun K hK => ?_) ?_
  go_simp
  refine hK.out _ _ ?_
  (clear hK K; try go_frame)
  refine wpAnyD_ready (rs := [3]) (by kernel_rfl) (by simp) ?_
  refine ReadyD.last rfl (by rfl) (fun K hK => ?_) ?_
  go_simp
  refine hK.out _ _ ?_
  (clear hK K; try go_frame)
  refine wpAnyD_done (by kernel_rfl) ?_ _
  rotate_left
  exact ReadyD.nil
  exact ReadyD.nil
  exact ReadyD.nil
  refine ReadyD.last rfl (by rfl) (fun K hK => ?_) ?_
  go_simp
  refine hK.out _ _ ?_
  (clear hK K; try go_frame)
  refine wpAnyD_ready (rs := [0]) (by kernel_rfl) (by simp) ?_
  refine ReadyD.last rfl (by rfl) (fun K hK => ?_) ?_
  go_simp
  refine hK.out _ _ ?_
  (clear hK K; try go_frame)
  refine wpAnyD_ready (rs := [2]) (by kernel_rfl) (by simp) ?_
  refine ReadyD.last rfl (by rfl) (fun K hK => ?_) ?_
  go_simp
  refine hK.out _ _ ?_
  (clear hK K; try go_frame)
  refine wpAnyD_ready (rs := [3]) (by kernel_rfl) (by simp) ?_
  refine ReadyD.last rfl (by rfl) (fun K hK => ?_) ?_
  go_simp
  refine hK.out _ _ ?_
  (clear hK K; try go_frame)
  refine wpAnyD_done (by kernel_rfl) ?_ _
  rotate_left
  exact ReadyD.nil
  exact ReadyD.nil
  exact ReadyD.nil
  exact ReadyD.nil
  all_goals
    go_wp2_with fail
    (try simp only [Exit.inBlock, Exit.then])
    refine bodyPost_ret (v := .tuple #[.slice ka n kc, .slice va n vc]) ?_ rfl ⟨_, _, rfl, HT.out⟩
    rw [results_cell2 rfl]
    have q1 := HR.out
    have q2 := HR2.out
    go_simp
end Go.Proofs.YtedfijmaeoednaaGreatDoor
